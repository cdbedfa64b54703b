/- What was put is taken: event.TakeBatch. Under the tables that utf8 lays. -/
import Derived.Test.YtimfoijajafdpaaDoorCodV
import Derived.BigRegion
namespace Go.Proofs.YtimfoijajafdpaaDoor
open Go.RowKit Go.Bl
attribute [local go_sem ↓] Go.wp_at_zero Go.wp_at_succ

theorem infoEvW : (Tryd.prog.info? 55).map (fun i => (i.zero, i.size, i.bytes)) = some (some (.agg #[.string ByteArray.empty, .string ByteArray.empty]), 2, 32) := by kernel_rfl
theorem evc_oneW (x : Ev) (u : Value) (h : u ∈ evc x) : u.oneCell' = true := by
  simp only [evc, List.mem_cons, List.not_mem_nil, or_false] at h
  rcases h with rfl | rfl <;> rfl
theorem elEvW : El Tryd.prog 25 55 2 32 evc := ⟨Tryd.underlying25, ⟨_, infoEvW, rfl⟩, by decide, by decide, fun _ => rfl, evc_oneW⟩
/-- What TakeBatch leaves. -/
def TookB (w : World) (a : Ent) (r : List UInt8) (e : Ending) (w' : World) : Prop :=
  ∃ v, e = .returned (.tuple #[.agg #[.string a.stream, .int .i64 a.expect, .int .i64 a.session, .int .i64 a.seq, v], .string (Bl r), .int .i64 0]) ∧ Own w' w.heap.size 55 2 evc v a.evs ∧ Below w.heap.size w w'
/-- The loop's state. -/
def TakeRel (w : World) (g p q B : Nat) (a : Ent) (r : List UInt8) (i : Value) (wr : World) : Prop :=
  ∃ (k : Nat) (v : Value), k ≤ a.evs.length ∧ i = .int .i64 k ∧ Rd wr p ((a.evs.drop k).flatMap evbL ++ r) ∧ wr.heap[g]? = some (.cells #[.string ⟨#[]⟩, .int .i64 0, .int .i64 0, .int .i64 0, .slice none 0 0] 27 (0, 0)) ∧
    wr.heap[q]? = some (.cells #[.string a.stream, .int .i64 a.expect, .int .i64 a.session, .int .i64 a.seq, v] 27 (0, 0)) ∧ Own wr B 55 2 evc v (a.evs.take k) ∧ Below w.heap.size w wr ∧ B ≤ wr.heap.size
set_option maxRecDepth 10000 in
set_option maxHeartbeats 4000000 in
theorem takeBatch_ok (w : World) (hT : Tabs w) (a : Ent) (hf : fitsI a = 0) (r : List UInt8) (hr : r.length ≤ 500000) :
    Calls Tryd.prog 42 #[.string (Bl (batL a ++ r))] w (TookB w a r) := by
  obtain ⟨h1, ⟨h2, h2'⟩, h3, h4, h5, h6, h7⟩ := fits_zero hf
  have e1 := name_size h1
  have hlen := batL_len hf
  have e0 : batL a ++ r = txtL (Lb a.stream) ++ (numL (zig a.expect) ++ (numL a.session.toNat ++ (numL a.seq.toNat ++ (numL a.evs.length ++ (a.evs.flatMap evbL ++ r))))) := by
    unfold batL; simp only [List.append_assoc]
  have hl : ∀ X Y : List UInt8, (X ++ Y).length = X.length + Y.length := fun X Y => List.length_append
  have f3 := numL_len (n := zig a.expect) (by have := zig_le h2 h2'; omega)
  have f4 := numL_len (n := a.session.toNat) (by omega)
  have f5 := numL_len (n := a.seq.toNat) (by omega)
  have f6 := numL_len (n := a.evs.length) (by omega)
  have f7 := flat_len evbL 340 a.evs (fun e he => evbL_len (h7 e he))
  have f8 : a.evs.length * 340 ≤ 8 * 340 := Nat.mul_le_mul_right _ h6
  have H7 := Lib.hid h7
  have HT := Lib.hid hT
  have HF := Lib.hid hf
  have E0 := Lib.hid e0
  obtain ⟨s, hs⟩ : ∃ s, Bl (batL a ++ r) = s := ⟨_, rfl⟩
  rw [hs]
  have hB0 : Below w.heap.size w ((w.alloc (.cells #[.string ⟨#[]⟩, .int .i64 0, .int .i64 0, .int .i64 0, .slice none 0 0] 27)).alloc (.cells #[.string s, .int .i64 0] 94)) := ((Below.refl _ w).alloc (Nat.le_refl _) _).alloc (by simp) _
  have hb1 : ((w.alloc (.cells #[.string ⟨#[]⟩, .int .i64 0, .int .i64 0, .int .i64 0, .slice none 0 0] 27)).alloc (.cells #[.string s, .int .i64 0] 94)).heap[w.heap.size]? = some (.cells #[.string ⟨#[]⟩, .int .i64 0, .int .i64 0, .int .i64 0, .slice none 0 0] 27 (0, 0)) := (Below.heap_alloc _ _ _ (by simp)).trans (heap_alloc_new w _)
  have hb2 := heap_alloc_new (w.alloc (.cells #[.string ⟨#[]⟩, .int .i64 0, .int .i64 0, .int .i64 0, .slice none 0 0] 27)) (.cells #[.string s, .int .i64 0] 94)
  rw [World.size_alloc] at hb2
  have hsz : w.heap.size + 1 < ((w.alloc (.cells #[.string ⟨#[]⟩, .int .i64 0, .int .i64 0, .int .i64 0, .slice none 0 0] 27)).alloc (.cells #[.string s, .int .i64 0] 94)).heap.size := by simp
  clear h7 hT hf e0 hl
  go_enter Tryd.func42, Tryd.ntmps42
  go_upto_region 2 with (fail)
  generalize (w.alloc (.cells #[.string ⟨#[]⟩, .int .i64 0, .int .i64 0, .int .i64 0, .slice none 0 0] 27)).alloc (.cells #[.string s, .int .i64 0] 94) = w1 at hB0 hb1 hb2 hsz ⊢
  obtain ⟨g, hg⟩ : ∃ g, w.heap.size = g := ⟨_, rfl⟩
  have HG := Lib.hid hg
  have HB0 := Lib.hid hB0
  rw [hg] at hb1 hb2 hsz ⊢
  obtain ⟨p, hp⟩ : ∃ p, g + 1 = p := ⟨_, rfl⟩
  rw [hp] at hb2 hsz ⊢
  have hgp : g < p := by omega
  have hR : Rd w1 p (batL a ++ r) := by unfold Rd; rw [hs]; exact hb2
  rw [E0.out] at hR
  have HR := Lib.hid hR
  have HZ := Lib.hid hb1
  have HK := Lib.hid (Keeps.refl (fun k => k = p) w1)
  clear hg hp hs hb1 hb2 hB0 hR
  go_wp2_with fail
  refine (rname_ok w1 p a.stream (by omega) (numL (zig a.expect) ++ (numL a.session.toNat ++ (numL a.seq.toNat ++ (numL a.evs.length ++ (a.evs.flatMap evbL ++ r))))) (by simp only [List.length_append]; omega) _ rfl HR.out).mono ?_
  rintro x w2 ⟨rfl, hR2, hK2⟩
  have HR := Lib.hid hR2
  have HZ := Lib.hid (hK2.grownTo HZ.out (fun e => by omega))
  have HK := Lib.hid (HK.out.trans hK2)
  clear hR2 hK2
  go_wp2_with fail
  refine (signed_ok w2 p a.expect h2 h2' (numL a.session.toNat ++ (numL a.seq.toNat ++ (numL a.evs.length ++ (a.evs.flatMap evbL ++ r)))) (by simp only [List.length_append]; omega) _ rfl HR.out).mono ?_
  rintro x w2 ⟨rfl, hR2, hK2⟩
  have HR := Lib.hid hR2
  have HZ := Lib.hid (hK2.grownTo HZ.out (fun e => by omega))
  have HK := Lib.hid (HK.out.trans hK2)
  clear hR2 hK2
  go_wp2_with fail
  refine (number_ok w2 p a.session.toNat (by omega) (numL a.seq.toNat ++ (numL a.evs.length ++ (a.evs.flatMap evbL ++ r))) (by simp only [List.length_append]; omega) _ rfl HR.out).mono ?_
  rw [show ((a.session.toNat : Nat) : Int) = a.session by omega]
  rintro x w2 ⟨rfl, hR2, hK2⟩
  have HR := Lib.hid hR2
  have HZ := Lib.hid (hK2.grownTo HZ.out (fun e => by omega))
  have HK := Lib.hid (HK.out.trans hK2)
  clear hR2 hK2
  go_wp2_with fail
  refine (number_ok w2 p a.seq.toNat (by omega) (numL a.evs.length ++ (a.evs.flatMap evbL ++ r)) (by simp only [List.length_append]; omega) _ rfl HR.out).mono ?_
  rw [show ((a.seq.toNat : Nat) : Int) = a.seq by omega]
  rintro x w2 ⟨rfl, hR2, hK2⟩
  have HR := Lib.hid hR2
  have HZ := Lib.hid (hK2.grownTo HZ.out (fun e => by omega))
  have HK := Lib.hid (HK.out.trans hK2)
  clear hR2 hK2
  go_upto_region 3 with (fail)
  have hB3 : Below w2.heap.size w2 (w2.alloc (.cells #[.string a.stream, .int .i64 a.expect, .int .i64 a.session, .int .i64 a.seq, .slice none 0 0] 27)) := (Below.refl _ w2).alloc (Nat.le_refl _) _
  have hq := heap_alloc_new w2 (.cells #[.string a.stream, .int .i64 a.expect, .int .i64 a.session, .int .i64 a.seq, .slice none 0 0] 27)
  have hsz3 : (w2.alloc (.cells #[.string a.stream, .int .i64 a.expect, .int .i64 a.session, .int .i64 a.seq, .slice none 0 0] 27)).heap.size = w2.heap.size + 1 := World.size_alloc _ _
  generalize w2.alloc (.cells #[.string a.stream, .int .i64 a.expect, .int .i64 a.session, .int .i64 a.seq, .slice none 0 0] 27) = w3 at hB3 hq hsz3 ⊢
  have HR := Lib.hid (HR.out.fresh hB3)
  have HZ := Lib.hid ((Keeps.of_fresh hB3 (fun _ => False)).grownTo HZ.out id)
  have hpq : p < w2.heap.size := by have := HK.out.size; omega
  have hb3 : Below w.heap.size w w3 := (HB0.out.trans (HK.out.below (by have := HB0.out.size; omega) (fun k e => by have := HG.out; omega))).trans (hB3.mono (by have := HB0.out.size; have := HK.out.size; omega))
  have HB3 := Lib.hid hb3
  obtain ⟨q, hqe⟩ : ∃ q, w2.heap.size = q := ⟨_, rfl⟩
  rw [hqe] at hq hsz3 hpq ⊢
  have HQ := Lib.hid hq
  clear hq hB3 hqe hb3
  go_wp2_with fail
  refine (number_ok w3 p a.evs.length (by omega) (a.evs.flatMap evbL ++ r) (by simp only [List.length_append]; omega) _ rfl HR.out).mono ?_
  rintro x w4 ⟨rfl, hR4, hK4⟩
  have HR := Lib.hid hR4
  have HZ := Lib.hid (hK4.grownTo HZ.out (fun e => by omega))
  have HQ := Lib.hid (hK4.grownTo HQ.out (fun e => by omega))
  have hs4 := hK4.size
  have HB4 := Lib.hid (HB3.out.trans (hK4.below (by have := HB3.out.size; omega) (fun k e => by have := HG.out; omega)))
  obtain ⟨B, hBe⟩ : ∃ B, B = q + 1 := ⟨_, rfl⟩
  have hBw : B ≤ w4.heap.size := by omega
  have hgB : w.heap.size ≤ B := by have := HG.out; omega
  clear hR4 hK4
  have d8 : decide ((8 : Int) < (a.evs.length : Int)) = false := by simp; omega
  go_wp2_with fail
  go_loopw [8, 9] (fun i _ wr => TakeRel w g p q B a r i wr) (fun i _ _ => a.evs.length - (intOf i).toNat)
  case atStart => exact ⟨0, .slice none 0 0, Nat.zero_le _, rfl, HR.out, HZ.out, HQ.out, by rw [List.take_zero]; exact Own.nil_ _ _ _ _ _, HB4.out, hBw⟩
  case round =>
    obtain ⟨k, v, hk, rfl, hR5, hZ5, hQ5, hO5, hB5, hs5⟩ := hrel
    obtain ⟨Av, cv, rfl, hv1, hv2⟩ := hO5.shape_ (show (a.evs.take k).length = k by rw [List.length_take]; omega)
    have y1 : wr.cell? ⟨p, 1, none⟩ = some (.int .i64 0) := cell_of_row wr p 1 _ _ _ hR5
    have HR5 := Lib.hid hR5
    have HZ5 := Lib.hid hZ5
    have HQ5 := Lib.hid hQ5
    have HO5 := Lib.hid hO5
    have HB5 := Lib.hid hB5
    by_cases hlt : k < a.evs.length
    · have d0 : decide ((k : Int) < (a.evs.length : Int)) = true := by simp; omega
      have hdr : (a.evs.drop k).flatMap evbL ++ r = evbL a.evs[k] ++ ((a.evs.drop (k + 1)).flatMap evbL ++ r) := by
        rw [List.drop_eq_getElem_cons hlt, List.flatMap_cons, List.append_assoc]
      have hrs := rightE_sizes (H7.out a.evs[k] (List.getElem_mem hlt))
      have hfd := flat_len evbL 340 (a.evs.drop (k + 1)) (fun e he => evbL_len (H7.out e (List.mem_of_mem_drop he)))
      rw [List.length_drop] at hfd
      have hfd2 : (a.evs.length - (k + 1)) * 340 ≤ 8 * 340 := Nat.mul_le_mul_right _ (by omega)
      have hR6 := HR5.out
      rw [hdr] at hR6
      have HR6 := Lib.hid hR6
      clear hR5 hZ5 hQ5 hO5 hB5 hdr hR6
      go_wp2_with fail
      refine (event_ok wr p a.evs[k] (by omega) (by omega) ((a.evs.drop (k + 1)).flatMap evbL ++ r) (by rw [List.length_append]; omega) HR6.out).mono ?_
      rintro x w6 ⟨rfl, hR7, hK7⟩
      have hs7 := hK7.size
      have HR7 := Lib.hid hR7
      have HZ7 := Lib.hid (hK7.grownTo HZ5.out (fun e => by omega))
      have HQ7 := Lib.hid (hK7.grownTo HQ5.out (fun e => by omega))
      have HO7 := Lib.hid (HO5.out.keep hK7 (fun b hb e => by have := (HO5.out.lt b hb).1; omega))
      have HB7 := Lib.hid (HB5.out.trans (hK7.below (by have := HB5.out.size; omega) (fun k e => by have := HG.out; omega)))
      clear hR7 hK7
      go_upto_region 10 with (fail)
      have hb8 : Below w6.heap.size w6 (w6.alloc (.cells #[.string a.evs[k].kind, .string a.evs[k].data] 55)) := (Below.refl _ w6).alloc (Nat.le_refl _) _
      have hn8 := heap_alloc_new w6 (.cells #[.string a.evs[k].kind, .string a.evs[k].data] 55)
      generalize w6.alloc (.cells #[.string a.evs[k].kind, .string a.evs[k].data] 55) = w8 at hb8 hn8 ⊢
      have hs8 := hb8.size
      have HR8 := Lib.hid (HR7.out.fresh hb8)
      have HZ8 := Lib.hid ((Keeps.of_fresh hb8 (fun _ => False)).grownTo HZ7.out id)
      have hq8 := (Keeps.of_fresh hb8 (fun _ => False)).grownTo HQ7.out id
      have HO8 := Lib.hid (HO7.out.fresh hb8)
      have HB8 := Lib.hid (HB7.out.trans (hb8.mono HB7.out.size))
      have z0 : w8.cell? ⟨w6.heap.size, 0, none⟩ = some (.string a.evs[k].kind) := cell_of_row w8 _ 0 _ _ _ hn8
      have z1 : w8.cell? ⟨w6.heap.size, 1, none⟩ = some (.string a.evs[k].data) := cell_of_row w8 _ 1 _ _ _ hn8
      have y4 : w8.cell? ⟨q, 4, none⟩ = some (.slice Av k cv) := cell_of_row w8 q 4 _ _ _ hq8
      have HQ8 := Lib.hid hq8
      have hBs8 : B ≤ w8.heap.size := by omega
      clear hb8 hn8 hq8
      go_wp2_with (at_builtin; refine elEvW.append _ (by rfl) _ _ rfl B _ (a.evs.take k) rfl (HO8.out.fresh ((Below.refl _ _).alloc (Nat.le_refl _) _)) _ _ [a.evs[k]] rfl (Sl.single (heap_alloc_new _ _) rfl) ?_ ?_ ?_; (simp only [List.length_take, List.length_singleton]; omega); (simp only [World.size_alloc]; omega); intro v' w9 hown' hgrow hat; (obtain ⟨Av', cv', rfl, _, _⟩ := hown'.shape_ (show (a.evs.take k ++ [a.evs[k]]).length = k + 1 by simp; omega)); have hkk := Keeps.of_grown hgrow; have hnq : ∀ m, m ≤ q → ¬ ((Value.slice Av k cv).ownBlock = some m) := (fun m hm e => by have := (HO8.out.lt m e).1; omega); have hq9 := hkk.grownTo ((Keeps.of_fresh ((Below.refl w8.heap.size w8).alloc (Nat.le_refl _) _) (fun _ => False)).grownTo HQ8.out id) (hnq q (by omega)); have y9 := cell_of_row w9 q 4 _ _ _ hq9; have g9 := frozen_block hq9 4; have HQ9 := Lib.hid hq9; have HO9 := Lib.hid hown'; have HGR := Lib.hid hgrow; have HNQ := Lib.hid hnq; clear hown' hgrow hat hkk hq9 hnq)
      go_roundw
      case rel =>
        have hal : Below w8.heap.size w8 (w8.alloc (.cells #[.string a.evs[k].kind, .string a.evs[k].data] 55)) := (Below.refl w8.heap.size w8).alloc (Nat.le_refl _) _
        have hgr := Keeps.of_grown HGR.out
        have hkS : Keeps (fun m => m = q) w9 (w9.setCell ⟨q, 4, none⟩ (.slice Av' (k + 1) cv')) := (Keeps.refl (fun m => m = q) w9).setCell (p := ⟨q, 4, none⟩) (fun _ => rfl) _
        have hR9 := hkS.grownTo (hgr.grownTo ((Keeps.of_fresh hal (fun _ => False)).grownTo HR8.out id) (HNQ.out p (by omega))) (fun e => by omega)
        have hZ9 := hkS.grownTo (hgr.grownTo ((Keeps.of_fresh hal (fun _ => False)).grownTo HZ8.out id) (HNQ.out g (by omega))) (fun e => by omega)
        have hO9 := HO9.out.keep hkS (fun b hb e => by have := (HO9.out.lt b hb).1; omega)
        have hsz9 := HGR.out.size
        rw [World.size_alloc] at hsz9
        refine ⟨k + 1, _, hlt, by go_num, hR9, hZ9, setCell_block' (o := 4) HQ9.out _, ?_, ?_, by have := hkS.size; omega⟩
        · rw [List.take_succ_eq_append_getElem hlt]
          exact hO9
        · have := HB8.out.size
          exact ((HB8.out.alloc this _).grown HGR.out (by simp; omega) (fun m e => by have := (HO8.out.lt m e).1; omega)).setCell (p := ⟨q, 4, none⟩) (by have := HG.out; show w.heap.size ≤ q; omega) _
      case measure => simp [intOf]; omega
    · have hkd : k = a.evs.length := by omega
      subst hkd
      have d0 : decide ((a.evs.length : Int) < (a.evs.length : Int)) = false := by simp
      have hR6 := HR5.out
      rw [List.drop_length, List.flatMap_nil, List.nil_append] at hR6
      have hO6 := HO5.out
      rw [List.take_length] at hO6
      have hsl := hO6.sl elEvW.len
      have hfi := fits_any wr (HT.out.fresh HB5.out) _ ⟨a.pos, a.epoch, a.stream, a.expect, a.session, a.seq, .slice Av a.evs.length cv, a.evs⟩ ⟨hsl, fun e he => by have := rightE_sizes (H7.out e he); exact ⟨by omega, by omega⟩, by show a.stream.size ≤ _; omega, by show a.evs.length ≤ _; omega⟩
      rw [show fitsI ⟨a.pos, a.epoch, a.stream, a.expect, a.session, a.seq, .slice Av a.evs.length cv, a.evs⟩ = fitsI a from rfl, HF.out] at hfi
      have x0 : wr.cell? ⟨q, 0, none⟩ = some (.string a.stream) := cell_of_row wr q 0 _ _ _ HQ5.out
      have x1 : wr.cell? ⟨q, 1, none⟩ = some (.int .i64 a.expect) := cell_of_row wr q 1 _ _ _ HQ5.out
      have x2 : wr.cell? ⟨q, 2, none⟩ = some (.int .i64 a.session) := cell_of_row wr q 2 _ _ _ HQ5.out
      have x3 : wr.cell? ⟨q, 3, none⟩ = some (.int .i64 a.seq) := cell_of_row wr q 3 _ _ _ HQ5.out
      have x4 : wr.cell? ⟨q, 4, none⟩ = some (.slice Av a.evs.length cv) := cell_of_row wr q 4 _ _ _ HQ5.out
      have HR6 := Lib.hid hR6
      have HO6 := Lib.hid hO6
      have HFI := Lib.hid hfi
      clear hR5 hZ5 hQ5 hO5 hB5 hR6 hO6 hsl hfi
      go_wp2_with fail
      refine HFI.out.mono ?_
      rintro x w6 ⟨rfl, hB6⟩
      have hq6 := (Keeps.of_fresh hB6 (fun _ => False)).grownTo HQ5.out id
      have hr6 := HR6.out.fresh hB6
      have hz6 := (Keeps.of_fresh hB6 (fun _ => False)).grownTo HZ5.out id
      have x0 : w6.cell? ⟨q, 0, none⟩ = some (.string a.stream) := cell_of_row w6 q 0 _ _ _ hq6
      have x1 : w6.cell? ⟨q, 1, none⟩ = some (.int .i64 a.expect) := cell_of_row w6 q 1 _ _ _ hq6
      have x2 : w6.cell? ⟨q, 2, none⟩ = some (.int .i64 a.session) := cell_of_row w6 q 2 _ _ _ hq6
      have x3 : w6.cell? ⟨q, 3, none⟩ = some (.int .i64 a.seq) := cell_of_row w6 q 3 _ _ _ hq6
      have x4 : w6.cell? ⟨q, 4, none⟩ = some (.slice Av a.evs.length cv) := cell_of_row w6 q 4 _ _ _ hq6
      have y0 : w6.cell? ⟨p, 0, none⟩ = some (.string (Bl r)) := cell_of_row w6 p 0 _ _ _ hr6
      have y1 : w6.cell? ⟨p, 1, none⟩ = some (.int .i64 0) := cell_of_row w6 p 1 _ _ _ hr6
      have z0 : w6.cell? ⟨g, 0, none⟩ = some (.string ⟨#[]⟩) := cell_of_row w6 g 0 _ _ _ hz6
      have z1 : w6.cell? ⟨g, 1, none⟩ = some (.int .i64 0) := cell_of_row w6 g 1 _ _ _ hz6
      have z2 : w6.cell? ⟨g, 2, none⟩ = some (.int .i64 0) := cell_of_row w6 g 2 _ _ _ hz6
      have z3 : w6.cell? ⟨g, 3, none⟩ = some (.int .i64 0) := cell_of_row w6 g 3 _ _ _ hz6
      have z4 : w6.cell? ⟨g, 4, none⟩ = some (.slice none 0 0) := cell_of_row w6 g 4 _ _ _ hz6
      have f0 : w6.frozen? ⟨g, 0, none⟩ = false := frozen_block hz6 0
      have f1 : w6.frozen? ⟨g, 1, none⟩ = false := frozen_block hz6 1
      have f2 : w6.frozen? ⟨g, 2, none⟩ = false := frozen_block hz6 2
      have f3 : w6.frozen? ⟨g, 3, none⟩ = false := frozen_block hz6 3
      have f4 : w6.frozen? ⟨g, 4, none⟩ = false := frozen_block hz6 4
      have HB6 := Lib.hid (HB5.out.trans (hB6.mono HB5.out.size))
      have HZ6 := Lib.hid hz6
      have HO7 := Lib.hid (HO6.out.fresh hB6)
      clear hB6 hq6 hr6 hz6
      go_wp2_with fail
      have hpg : ¬ p = g := by omega
      have hqg : ¬ q = g := by omega
      go_region
      go_wp2_with fail
      have hz7 : w6.heap[g]? = some (.cells #[.string ⟨#[]⟩, .int .i64 0, .int .i64 0, .int .i64 0, .slice none 0 0] 27 (0, 0)) := HZ6.out
      have hk5 := setCell_block' (o := 4) (v := .slice Av a.evs.length cv) (setCell_block' (o := 3) (v := .int .i64 a.seq) (setCell_block' (o := 2) (v := .int .i64 a.session) (setCell_block' (o := 1) (v := .int .i64 a.expect) (setCell_block' (o := 0) (v := .string a.stream) hz7))))
      have hkS : Keeps (fun k => k = g) w6 _ := ((((Keeps.refl (fun k => k = g) w6).setCell (p := ⟨g, 0, none⟩) (fun _ => rfl) (.string a.stream)).setCell (p := ⟨g, 1, none⟩) (fun _ => rfl) (.int .i64 a.expect)).setCell (p := ⟨g, 2, none⟩) (fun _ => rfl) (.int .i64 a.session)).setCell (p := ⟨g, 3, none⟩) (fun _ => rfl) (.int .i64 a.seq)
      have hkS := (hkS.setCell (p := ⟨g, 4, none⟩) (fun _ => rfl) (.slice Av a.evs.length cv)).drew
      replace hk5 := show ((((((w6.setCell ⟨g, 0, none⟩ (.string a.stream)).setCell ⟨g, 1, none⟩ (.int .i64 a.expect)).setCell ⟨g, 2, none⟩ (.int .i64 a.session)).setCell ⟨g, 3, none⟩ (.int .i64 a.seq)).setCell ⟨g, 4, none⟩ (.slice Av a.evs.length cv)).drew).heap[g]? = _ from hk5
      generalize (((((w6.setCell ⟨g, 0, none⟩ (.string a.stream)).setCell ⟨g, 1, none⟩ (.int .i64 a.expect)).setCell ⟨g, 2, none⟩ (.int .i64 a.session)).setCell ⟨g, 3, none⟩ (.int .i64 a.seq)).setCell ⟨g, 4, none⟩ (.slice Av a.evs.length cv)).drew = w7 at hk5 hkS ⊢
      have q0 : w7.cell? ⟨g, 0, none⟩ = some (.string a.stream) := cell_of_row w7 _ 0 _ _ _ hk5
      have q1 : w7.cell? ⟨g, 1, none⟩ = some (.int .i64 a.expect) := cell_of_row w7 _ 1 _ _ _ hk5
      have q2 : w7.cell? ⟨g, 2, none⟩ = some (.int .i64 a.session) := cell_of_row w7 _ 2 _ _ _ hk5
      have q3 : w7.cell? ⟨g, 3, none⟩ = some (.int .i64 a.seq) := cell_of_row w7 _ 3 _ _ _ hk5
      have q4 : w7.cell? ⟨g, 4, none⟩ = some (.slice Av a.evs.length cv) := cell_of_row w7 _ 4 _ _ _ hk5
      refine bodyPost_ret (v := .tuple #[.agg #[.string a.stream, .int .i64 a.expect, .int .i64 a.session, .int .i64 a.seq, .slice Av a.evs.length cv], .string (Bl r), .int .i64 0]) (by simp [results, Tryd.results42, go_sem, q0, q1, q2, q3, q4]) rfl ⟨.slice Av a.evs.length cv, rfl, ?_, ?_⟩
      · refine Own.lower (HO7.out.keep hkS (fun b hb e => ?_)) hgB
        have := (HO7.out.lt b hb).1
        omega
      · have hdr := HB6.out
        exact hdr.trans (hkS.below hdr.size (fun k e => by have := HG.out; omega))
end Go.Proofs.YtimfoijajafdpaaDoor
