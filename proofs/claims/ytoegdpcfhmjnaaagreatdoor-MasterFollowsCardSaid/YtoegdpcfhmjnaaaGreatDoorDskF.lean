/- The disk: Clone: a copy that shares nothing. -/
import Derived.Test.YtoegdpcfhmjnaaaGreatDoorDskE
import Derived.Test.YtoegdpcfhmjnaaaGreatDoorBlM
namespace Go.Proofs.YtoegdpcfhmjnaaaGreatDoor
open Go.RowKit Go.Bl
attribute [local go_sem ↓] Go.wp_at_zero Go.wp_at_succ

theorem total_perm {L M : List Fl} (h : L.Perm M) : total L = total M := (h.map fun f : Fl => f.bytes.size).sum_nat
theorem Dk.Ok.perm {d : Dk} (h : d.Ok) {L : List Fl} (hp : L.Perm d.L) : (⟨d.room, L⟩ : Dk).Ok :=
  ⟨h.room1, h.room2, by show (total L : Int) ≤ _; rw [total_perm hp]; exact h.used, by show L.length ≤ 40; rw [hp.length_eq]; exact h.len, fun f hf => h.syn f (hp.mem_iff.1 hf), fun f hf => h.nms f (hp.mem_iff.1 hf)⟩
theorem keyStr {key : Value} {kl : Lit} (h : keyOf Tryz.prog 9 key = some kl) : ∃ x : ByteArray, key = .string x ∧ kl = strLit x := by
  have hk : Tryz.prog.underlying 9 = some .string := Tryz.underlying9
  cases key <;> simp [keyOf, hk, mapKey] at h
  exact ⟨_, rfl, h.2.symm⟩

theorem perm_out {q : Nat × Fl} : ∀ {S : List (Nat × Fl)}, (S.map fun r => r.2.name).Nodup → q ∈ S → S.Perm (q :: S.filter fun s => decide (s.2.name ≠ q.2.name))
  | [], _, hm => by cases hm
  | r :: S, hn, hm => by
    rw [List.map_cons, List.nodup_cons] at hn
    rcases List.mem_cons.1 hm with e | hm
    · subst e
      rw [List.filter_cons_of_neg (by simp), List.filter_eq_self.2 (fun s hs => by simpa using fun e => hn.1 (List.mem_map.2 ⟨s, hs, e⟩))]
    · have hne : r.2.name ≠ q.2.name := fun e => hn.1 (List.mem_map.2 ⟨_, hm, e.symm⟩)
      rw [List.filter_cons_of_pos (by simpa using hne)]
      exact ((perm_out hn.2 hm).cons r).trans (List.Perm.swap _ _ _)

/-- What has been copied of a disk: R' of its files; S are still to come. -/
structure CopyD (w wr : World) (d : Dk) (bm : Nat) (R S R' : List (Nat × Fl)) : Prop where
  rng : RangeL wr Tryz.prog 9 strLit bm (w.heap.size + 2) (rowsD R) (rowsD S)
  map : MapL wr Tryz.prog 9 strLit w.heap.size (rowsD R')
  cb : wr.heap[w.heap.size + 1]? = some (.cells #[.int .i64 d.room, .int .i64 d.used, .map (some w.heap.size)] 106 (0, 0))
  sub : ∀ r ∈ S, r ∈ R
  rows : ∀ r ∈ R', wr.heap[r.1]? = some (.cells (flc r.2).toArray 111 (0, 0))
  fr : ∀ r ∈ R', w.heap.size + 2 < r.1 ∧ r.1 < wr.heap.size
  dist : (R'.map Prod.fst).Nodup
  new : ∀ r' ∈ R', ∀ r ∈ S, r.2.name ≠ r'.2.name
  perm : (R'.map Prod.snd ++ S.map Prod.snd).Perm (R.map Prod.snd)
  nds : (S.map fun r => r.2.name).Nodup
  blw : Below w.heap.size w wr

theorem copyD_end {w wr : World} {p : Nat} {d : Dk} {F : Nat → Prop} {bm : Nat} {R R' : List (Nat × Fl)} (h : DskIn w p d F bm R) (hc : CopyD w wr d bm R [] R') :
    ∃ L', L'.Perm d.L ∧ DskAt wr (w.heap.size + 1) ⟨d.room, L'⟩ (fun k => w.heap.size ≤ k ∧ k < wr.heap.size) := by
  have hl := hc.map.lt
  have hcb := (Array.getElem?_eq_some_iff.1 hc.cb).1
  have hp : (R'.map Prod.snd).Perm d.L := by
    have := hc.perm
    rw [List.map_nil, List.append_nil, h.rL] at this
    exact this
  have hu : (⟨d.room, R'.map Prod.snd⟩ : Dk).used = d.used := by
    show (total (R'.map Prod.snd) : Int) = (total d.L : Int)
    rw [total_perm hp]
  refine ⟨R'.map Prod.snd, hp, w.heap.size, R', ⟨by rw [hu]; exact hc.cb, rfl, hc.map, hc.rows, ?_, ⟨Nat.le_succ _, hcb⟩, ⟨Nat.le_refl _, hl⟩, fun r hr => ?_, fun k hk => hk.2⟩, h.ok.perm hp⟩
  · refine List.nodup_cons.2 ⟨fun hm => ?_, hc.dist⟩
    obtain ⟨r, hr, e⟩ := List.mem_map.1 hm
    have := (hc.fr r hr).1
    omega
  · have := hc.fr r hr
    omega

set_option maxRecDepth 8000 in
set_option maxHeartbeats 2000000 in
theorem clone_any (w : World) (p : Nat) (d : Dk) (F : Nat → Prop) (h : DskAt w p d F) :
    Calls Tryz.prog 23 #[.pointer (some ⟨p, 0, none⟩)] w fun e w' => e = .returned (.pointer (some ⟨w.heap.size + 1, 0, none⟩)) ∧ Below w.heap.size w w' ∧
      ∃ L', L'.Perm d.L ∧ DskAt w' (w.heap.size + 1) ⟨d.room, L'⟩ (fun k => w.heap.size ≤ k ∧ k < w'.heap.size) := by
  obtain ⟨bm, R, h⟩ := h
  have hp := h.lt p h.fp
  have hbm := h.map.lt
  have c0 := h.c0
  have c1 := h.c1
  have hmm := @run_makeMap Tryz.prog
  have hR : R.length ≤ 40 := by rw [h.len]; exact h.ok.len
  have H := Lib.hid h
  clear h
  go_enter Tryz.func23, Tryz.ntmps23
  go_wp2_with fail
  go_region
  have hB1 : Below w.heap.size w ((w.alloc (.map #[] 0)).alloc (.cells #[.int .i64 d.room, .int .i64 d.used, .map (some w.heap.size)] 106)).drew :=
    (((Below.refl _ w).alloc (Nat.le_refl _) _).alloc (by simp) _).trans ⟨rfl, rfl, rfl, Nat.le_refl _, fun _ _ => rfl⟩
  have hz1 : ((w.alloc (.map #[] 0)).alloc (.cells #[.int .i64 d.room, .int .i64 d.used, .map (some w.heap.size)] 106)).drew.heap.size = w.heap.size + 2 := by show ((w.alloc _).alloc _).heap.size = _; simp
  have hcb : ((w.alloc (.map #[] 0)).alloc (.cells #[.int .i64 d.room, .int .i64 d.used, .map (some w.heap.size)] 106)).drew.heap[w.heap.size + 1]? = some (.cells #[.int .i64 d.room, .int .i64 d.used, .map (some w.heap.size)] 106 (0, 0)) := by
    have := heap_alloc_new (w.alloc (.map #[] 0)) (.cells #[.int .i64 d.room, .int .i64 d.used, .map (some w.heap.size)] 106)
    rw [World.size_alloc] at this
    exact this
  have hmade : MapL ((w.alloc (.map #[] 0)).alloc (.cells #[.int .i64 d.room, .int .i64 d.used, .map (some w.heap.size)] 106)).drew Tryz.prog 9 strLit w.heap.size (rowsD []) :=
    (MapL.made w Tryz.prog 9 strLit).keep (G := fun _ => False) ((Keeps.refl _ _).alloc _).drew id
  generalize ((w.alloc (.map #[] 0)).alloc (.cells #[.int .i64 d.room, .int .i64 d.used, .map (some w.heap.size)] 106)).drew = w1 at hB1 hz1 hcb hmade ⊢
  have h1 := H.out.keep (Keeps.of_fresh hB1 fun _ => False) (fun _ _ => id)
  have c2 := h1.c2
  have hmp := h1.map
  have HCB := Lib.hid hcb
  have HMD := Lib.hid hmade
  have HB1 := Lib.hid hB1
  clear hcb hmade hB1 c0 c1 hmm h1
  go_wp2_with (first
    | (at_range; refine wpList_rangeL w1 rfl _ 104 rfl 9 109 lawS Tryz.underlying104 strLit bm _ rfl hmp ?_; intro w2 hrg hk2 hs2)
    | go_in)
  go_frame
  rw [hz1] at hrg hs2 ⊢
  have HRG := Lib.hid hrg
  have HK2 := Lib.hid hk2
  clear hrg hk2 hmp c2
  go_loopw [4, 5, 6] (fun _ _ _ wr => ∃ S R', CopyD w wr d bm R S R') (fun _ _ _ wr => wr.rangeLeft bm (w.heap.size + 2))
  case atStart =>
    refine ⟨R, [], HRG.out, HMD.out.keep HK2.out id, HK2.out.grownTo HCB.out id, fun r hr => hr, by simp, by simp, by simp, by simp, by simp, ?_, HB1.out.trans (HK2.out.below HB1.out.size (fun _ h => h.elim))⟩
    have := H.out.map.1
    simpa [rowsD, Function.comp_def] using this
  case round =>
    obtain ⟨S, R', hc⟩ := hrel
    have HC := Lib.hid hc
    have hrg := hc.rng
    clear hc
    go_wp2_with (first
      | (at_next; refine wpList_nextL _ rfl _ rfl 9 lawS strLit Value.string (fun key kl hk => by obtain ⟨x, e1, e2⟩ := keyStr hk; exact ⟨x, e1, e2⟩)
          (fun x kl hk => by obtain ⟨y, e1, e2⟩ := keyStr hk; injection e1 with e1; rw [e2, ← e1]) strLit_inj (fun x => by simp [strLit, Lit.sameKey]) bm (w.heap.size + 2) _ _ rfl hrg ?_ ?_)
      | go_in)
    · intro hrem
      have hS : S = [] := by simpa [rowsD] using hrem
      subst hS
      go_wp2_with fail
      go_ret
      exact ⟨rfl, HC.out.blw, copyD_end H.out HC.out⟩
    · intro x v w3 hmem hrg3 hk3 hs3 hlt3 hen
      obtain ⟨⟨br, f⟩, hr, hrq⟩ := List.mem_map.1 hmem
      obtain ⟨rfl, rfl⟩ : f.name = x ∧ ptr br = v := Prod.mk.inj hrq
      have hrR := HC.out.sub _ hr
      have hiz := HC.out.rng.lt
      have hB3 : Below w.heap.size w w3 := HC.out.blw.trans (hk3.below HC.out.blw.size (fun z e => by omega))
      have hblk := (Keeps.of_fresh hB3 (fun _ => False)).grownTo (H.out.rows _ hrR) id
      have s0 : w3.cell? ⟨br, 0, none⟩ = some (.string f.bytes) := cell_of_row w3 br 0 _ _ _ hblk
      have s1 : w3.cell? ⟨br, 1, none⟩ = some (.int .i64 f.syn) := cell_of_row w3 br 1 _ _ _ hblk
      have hcb3 := hk3.grownTo HC.out.cb (by omega)
      have hmap3 := HC.out.map.keep hk3 (by omega)
      have hnm := H.out.ok.nms f (H.out.mem hrR)
      have hrb := H.out.lt _ (H.out.fr _ hrR)
      have HCB3 := Lib.hid hcb3
      have HM3 := Lib.hid hmap3
      have HB3 := Lib.hid hB3
      have HRG3 := Lib.hid hrg3
      have HK3 := Lib.hid hk3
      have HLT3 := Lib.hid hlt3
      have HRR := Lib.hid hrR
      have HR := Lib.hid hr
      have hz3 : w.heap.size + 2 < w3.heap.size := by omega
      have hR' : R'.length ≤ 40 := by
        have := HC.out.perm.length_eq
        simp only [List.length_append, List.length_map] at this
        omega
      have HZ3 := Lib.hid hs3
      clear hs3 hmem hrq hrg hk3 hcb3 hmap3 hB3 hrg3 hblk hlt3 hrR hr
      unfold ptr at hen ⊢
      go_upto_region 6 with (fail)
      have hblk4 := heap_alloc_new w3 (.cells #[.string f.bytes, .int .i64 f.syn] 111)
      have hk4 := (Keeps.refl (fun _ => False) w3).alloc (.cells #[.string f.bytes, .int .i64 f.syn] 111)
      have hz4 := World.size_alloc w3 (.cells #[.string f.bytes, .int .i64 f.syn] 111)
      generalize w3.alloc (.cells #[.string f.bytes, .int .i64 f.syn] 111) = w4 at hblk4 hk4 hz4 ⊢
      have hcb4 := hk4.grownTo HCB3.out id
      have s2 : w4.cell? ⟨w.heap.size + 1, 2, none⟩ = some (.map (some w.heap.size)) := cell_of_row w4 _ 2 _ _ _ hcb4
      have hnone : getL (rowsD R') f.name = none := getD_none (fun r' hr' e => HC.out.new r' hr' _ HR.out e.symm)
      obtain ⟨w5, hrun, hmap5, hgr5, hsz5, _⟩ := (HM3.out.keep hk4 id).store lawS strLit_inj Tryz.underlying104 (by rw [rowsD_len]; unfold maxLen; omega) (x := f.name) (keyS (by unfold maxLen; omega)) hnone (.pointer (some ⟨w3.heap.size, 0, none⟩))
      have hk5 : Keeps (fun z => z = w.heap.size) w4 w5 := (Keeps.of_grown hgr5).mono fun z _ hz => by simpa using hz.symm
      have HK4 := Lib.hid hk4
      have HK5 := Lib.hid hk5
      have HM5 := Lib.hid hmap5
      have HBL4 := Lib.hid hblk4
      have HZ4 := Lib.hid hz4
      clear hk4 hk5 hmap5 hgr5 hblk4 hcb4 hnone s0 s1 hen hz4
      go_wp2_with fail
      have hz4 := HZ4.out
      have hk35 : Keeps (fun z => z = w.heap.size) w3 w5 := (HK4.out.mono fun _ _ h => h.elim).andThen HK5.out (fun _ _ e => e)
      have hkr : Keeps (fun z => z = w.heap.size + 2 ∨ z = w.heap.size) wr w5 := (HK3.out.mono fun z _ e => .inl e).andThen hk35 (fun z _ e => .inr e)
      have hnew5 := HK5.out.grownTo HBL4.out (show ¬ w3.heap.size = w.heap.size by omega)
      obtain ⟨hrg5, hleft5⟩ := HRG3.out.keep hk35 (by omega) (by omega)
      have hsz5 := HK5.out.size
      have hc := HC.out
      go_roundw
      case rel =>
        refine ⟨S.filter fun s => decide (s.2.name ≠ f.name), R' ++ [(w3.heap.size, f)], ?_⟩
        refine ⟨by rw [← rowsD_del]; simpa using hrg5, by simpa [rowsD, ptr] using HM5.out, hk35.grownTo HCB3.out (by omega), fun s hs => hc.sub s (List.mem_filter.1 hs).1, ?_, ?_, ?_, ?_, ?_, ?_, ?_⟩
        · intro s hs
          rcases List.mem_append.1 hs with hs | hs
          · have h1 := hc.fr s hs
            exact hkr.grownTo (hc.rows s hs) (fun e => by omega)
          · obtain rfl := List.mem_singleton.1 hs
            exact hnew5
        · intro s hs
          rcases List.mem_append.1 hs with hs | hs
          · have h1 := hc.fr s hs
            have := hkr.size
            omega
          · obtain rfl := List.mem_singleton.1 hs
            show w.heap.size + 2 < w3.heap.size ∧ w3.heap.size < w5.heap.size
            omega
        · rw [List.map_append, List.nodup_append]
          refine ⟨hc.dist, by simp, fun a ha c hc2 => ?_⟩
          obtain ⟨s, hs, rfl⟩ := List.mem_map.1 ha
          simp only [List.map_cons, List.map_nil, List.mem_singleton] at hc2
          have := (hc.fr s hs).2
          have := HZ3.out
          omega
        · intro r' hr' s hs
          obtain ⟨hs1, hs2⟩ := List.mem_filter.1 hs
          rcases List.mem_append.1 hr' with hr' | hr'
          · exact hc.new r' hr' s hs1
          · obtain rfl := List.mem_singleton.1 hr'
            simpa using hs2
        · have hS := (perm_out hc.nds HR.out).map Prod.snd
          refine List.Perm.trans ?_ hc.perm
          rw [List.map_append, List.append_assoc]
          exact (List.Perm.refl _).append hS.symm
        · exact hc.nds.sublist (List.Sublist.map _ List.filter_sublist)
        · exact HB3.out.trans (hk35.below HB3.out.size (fun z e => by omega))
      case measure => rw [hleft5]; exact HLT3.out
end Go.Proofs.YtoegdpcfhmjnaaaGreatDoor
