/- The disk: Crash. Under the stated premises on sizes. -/
import Derived.Test.YtoegdpcfhmjnaaaGreatDoorDskF
import Derived.Test.YtoegdpcfhmjnaaaGreatDoorDskC
import Derived.Test.YtoegdpcfhmjnaaaGreatDoorBlB
import Derived.BigRegion
namespace Go.Proofs.YtoegdpcfhmjnaaaGreatDoor
open Go.RowKit Go.Bl
attribute [local go_sem ↓] Go.wp_at_zero Go.wp_at_succ

def intc (n : Int) : List Value := [.int .i64 n]
/-- How many bytes more are kept of the file of place i. -/
def keepOf (keep : List Int) (i : Nat) : Int := gmax ((keep[i]?).getD 0) 0
def cutK (n : Int) (f : Fl) : Int := f.syn + gmin n ((f.bytes.size : Int) - f.syn)
def cutF (n : Int) (f : Fl) : Fl := { f with bytes := f.bytes.extract 0 (cutK n f).toNat, syn := cutK n f }
/-- The first k files, of the names ks, behind a crash. -/
def crashN (keep : List Int) (ks : List ByteArray) (L : List Fl) : Nat → List Fl
  | 0 => L
  | k + 1 => updL ((ks[k]?).getD ByteArray.empty) (cutF (keepOf keep k)) (crashN keep ks L k)
theorem keepOf_nonneg (keep : List Int) (i : Nat) : 0 ≤ keepOf keep i := by unfold keepOf gmax; omega
theorem keepOf_in {keep : List Int} {i : Nat} (h : i < keep.length) : gmax keep[i] 0 = keepOf keep i := by unfold keepOf; rw [List.getElem?_eq_getElem h]; rfl
theorem keepOf_out {keep : List Int} {i : Nat} (h : ¬ i < keep.length) : keepOf keep i = 0 := by unfold keepOf; rw [List.getElem?_eq_none (by omega)]; rfl
theorem cutK_in {n : Int} {f : Fl} (hn : 0 ≤ n) (h : 0 ≤ f.syn ∧ f.syn ≤ f.bytes.size) : f.syn ≤ cutK n f ∧ cutK n f ≤ f.bytes.size := by unfold cutK gmin; omega
theorem extract_size (s : ByteArray) {k : Nat} (h : k ≤ s.size) : (s.extract 0 k).size = k := by rw [ByteArray.size_extract]; omega
theorem updL_names (x : ByteArray) {g : Fl → Fl} (hg : ∀ f, (g f).name = f.name) (L : List Fl) : (updL x g L).map Fl.name = L.map Fl.name := by
  unfold updL
  rw [List.map_map]
  refine List.map_congr_left fun f _ => ?_
  show (if f.name = x then g f else f).name = f.name
  split
  · rw [hg]
  · rfl
theorem crashN_names (keep : List Int) (ks : List ByteArray) (L : List Fl) : ∀ k, (crashN keep ks L k).map Fl.name = L.map Fl.name
  | 0 => rfl
  | k + 1 => by
    show (updL _ _ _).map Fl.name = _
    rw [updL_names _ (g := cutF (keepOf keep k)) (fun _ => rfl), crashN_names keep ks L k]
theorem total_cons (f : Fl) (L : List Fl) : total (f :: L) = f.bytes.size + total L := by simp [total]
theorem updL_cons (x : ByteArray) (g : Fl → Fl) (f : Fl) (L : List Fl) : updL x g (f :: L) = (if f.name = x then g f else f) :: updL x g L := rfl
theorem updL_not {x : ByteArray} {g : Fl → Fl} {L : List Fl} (h : ∀ f ∈ L, f.name ≠ x) : updL x g L = L := by
  unfold updL
  conv => rhs; rw [← List.map_id L]
  refine List.map_congr_left fun q hq => ?_
  rw [if_neg (h q hq)]
  rfl
/-- What the files of some names hold together, one of them turned. -/
theorem total_filter_upd {S S' : ByteArray → Bool} {g : Fl → Fl} (hg : ∀ f, (g f).name = f.name) {f : Fl} (hS : S f.name = false) (hS' : ∀ y, S' y = (S y || decide (y = f.name))) :
    ∀ {L : List Fl}, (L.map Fl.name).Nodup → f ∈ L → total ((updL f.name g L).filter fun q => S' q.name) = total (L.filter fun q => S q.name) + (g f).bytes.size
  | [], _, hf => by cases hf
  | q :: L, hn, hf => by
    rw [List.map_cons, List.nodup_cons] at hn
    rcases List.mem_cons.1 hf with e | hf
    · subst e
      have h0 : ∀ r ∈ L, r.name ≠ f.name := fun r hr e => hn.1 (List.mem_map.2 ⟨r, hr, e⟩)
      rw [updL_cons, if_pos rfl, updL_not h0, List.filter_cons_of_pos (by rw [hg, hS']; simp), List.filter_cons_of_neg (by rw [hS]; decide), total_cons]
      have : (L.filter fun q => S' q.name) = L.filter fun q => S q.name := List.filter_congr fun r hr => by rw [hS']; simp [h0 r hr]
      rw [this]
      omega
    · have hne : q.name ≠ f.name := fun e => hn.1 (List.mem_map.2 ⟨f, hf, e.symm⟩)
      have ih := total_filter_upd hg hS hS' hn.2 hf
      rw [updL_cons, if_neg hne]
      have e : S' q.name = S q.name := by rw [hS']; simp [hne]
      cases hq : S q.name
      · rw [List.filter_cons_of_neg (by rw [e, hq]; decide), List.filter_cons_of_neg (by rw [hq]; decide)]
        exact ih
      · rw [List.filter_cons_of_pos (by rw [e, hq]), List.filter_cons_of_pos (by rw [hq]), total_cons, total_cons]
        omega
theorem total_upd_le {x : ByteArray} {g : Fl → Fl} : ∀ {L : List Fl}, (∀ f ∈ L, (g f).bytes.size ≤ f.bytes.size) → total (updL x g L) ≤ total L
  | [], _ => Nat.le_refl _
  | q :: L, h => by
    have ih := total_upd_le (x := x) (g := g) (L := L) (fun f hf => h f (List.mem_cons_of_mem _ hf))
    rw [updL_cons, total_cons, total_cons]
    have := h q (List.mem_cons_self ..)
    split <;> omega
theorem crashN_succ (keep : List Int) {ks : List ByteArray} (L : List Fl) {k : Nat} (h : k < ks.length) : crashN keep ks L (k + 1) = updL ks[k] (cutF (keepOf keep k)) (crashN keep ks L k) := by
  show updL ((ks[k]?).getD _) _ _ = _
  rw [List.getElem?_eq_getElem h]
  rfl
theorem cutF_size {n : Int} {f : Fl} (hn : 0 ≤ n) (h : 0 ≤ f.syn ∧ f.syn ≤ f.bytes.size) : ((cutF n f).bytes.size : Int) = cutK n f := by
  have := cutK_in hn h
  show ((f.bytes.extract 0 (cutK n f).toNat).size : Int) = _
  rw [extract_size _ (by omega)]
  omega

theorem total_filter_le (P : Fl → Bool) : ∀ L : List Fl, total (L.filter P) ≤ total L
  | [] => Nat.le_refl _
  | f :: L => by
    have ih := total_filter_le P L
    rw [List.filter_cons, total_cons]
    split
    · rw [total_cons]; omega
    · omega
def amid (ks : List ByteArray) (y : ByteArray) : Bool := ks.any fun x => decide (x = y)
theorem amid_iff {ks : List ByteArray} {y : ByteArray} : amid ks y = true ↔ y ∈ ks := by simp [amid]
theorem amid_succ {ks : List ByteArray} {k : Nat} (h : k < ks.length) (y : ByteArray) : amid (ks.take (k + 1)) y = (amid (ks.take k) y || decide (y = ks[k])) := by
  unfold amid
  rw [List.take_succ_eq_append_getElem h, List.any_append]
  simp [eq_comm]
theorem amid_not {ks : List ByteArray} {k : Nat} (h : k < ks.length) (hr : Rising ks) : amid (ks.take k) ks[k] = false := by
  cases e : amid (ks.take k) ks[k] with
  | false => rfl
  | true =>
    obtain ⟨i, hi, e2⟩ := List.mem_iff_getElem.1 (amid_iff.1 e)
    rw [List.length_take] at hi
    rw [List.getElem_take] at e2
    exact absurd (e2 ▸ List.pairwise_iff_getElem.1 hr i k (by omega) h (by omega)) (fun h => by rw [bLt_iff] at h; exact List.lt_irrefl _ h)

def CrashRel (w : World) (p : Nat) (d : Dk) (F : Nat → Prop) (bm : Nat) (keep : List Int) (ks : List ByteArray) (i : Value) (wr : World) : Prop :=
  ∃ (k : Nat) (R : List (Nat × Fl)), k ≤ ks.length ∧ i = .int .i64 k ∧ (⟨d.room, crashN keep ks d.L k⟩ : Dk).Ok ∧
    DskR wr p d.room (total ((crashN keep ks d.L k).filter fun q : Fl => amid (ks.take k) q.name)) (crashN keep ks d.L k) F bm R ∧ Keeps F w wr

set_option maxRecDepth 8000 in
set_option maxHeartbeats 4000000 in
theorem crash_any (w : World) (p : Nat) (d : Dk) (F G : Nat → Prop) (h : DskAt w p d F) (kv : Value) (keep : List Int) (hkv : Sl w G 1 intc kv keep) (hG : ∀ k, G k → ¬ F k) :
    Calls Tryz.prog 19 #[.pointer (some ⟨p, 0, none⟩), kv] w fun e w' => e = .returned (.tuple #[]) ∧ Keeps F w w' ∧ ∃ ks, Names d.L ks ∧ DskAt w' p ⟨d.room, crashN keep ks d.L ks.length⟩ F := by
  obtain ⟨bm, R, h⟩ := h
  obtain ⟨A, c, rfl, hA1, hA2⟩ := hkv.shape
  unfold maxLen at hA2
  have hmx := @run_gmax Tryz.prog
  have hmn := @run_gmin Tryz.prog
  have c1 := h.c1
  have f1 : w.frozen? ⟨p, 1, none⟩ = false := frozen_block h.blk 1
  have hp := h.lt p h.fp
  have H := Lib.hid h
  have HK := Lib.hid hkv
  clear h hkv
  go_enter Tryz.func19, Tryz.ntmps19
  go_wp2_with fail
  have hk1 := Keeps.one w p 1 (.int .i64 0)
  have hblk1 := setCell_block (o := 1) H.out.blk (.int .i64 0)
  have hz1 := size_setCell w ⟨p, 1, none⟩ (.int .i64 0)
  generalize w.setCell ⟨p, 1, none⟩ (.int .i64 0) = w1 at hk1 hblk1 hz1 ⊢
  have hr1 : DskR w1 p d.room 0 d.L F bm R := ⟨hblk1, H.out.rL, H.out.map.keep hk1 (fun e => H.out.p_ne e.symm), fun r hr => hk1.grownTo (H.out.rows r hr) (H.out.p_row hr), H.out.dist, H.out.fp, H.out.fm, H.out.fr, fun k hk => Nat.lt_of_lt_of_le (H.out.lt k hk) hk1.size⟩
  refine (list_in w1 p d.room 0 d.L F bm R hr1 H.out.ok.len).mono ?_
  rintro e w2 ⟨v, ks, rfl, hN, hB2, hS2⟩
  obtain ⟨B, cb, rfl, hB1, hBm⟩ := hS2.shape
  have hks := hN.len H.out.nodup
  have hl40 := H.out.ok.len
  have hS2 := hS2.bound
  have hr2 := hr1.keep (Keeps.of_fresh hB2 fun _ => False) (fun _ _ => id)
  have hk2 : Keeps F w w2 := (hk1.mono (fun k _ e => e ▸ H.out.fp)).fresh hB2
  have HKS := Lib.hid hks
  have HS := Lib.hid hS2
  clear hks
  have HN := Lib.hid hN
  have HR2 := Lib.hid hr2
  have HK2 := Lib.hid hk2
  clear hk1 hblk1 hr1 hB2 hS2 hN hr2 hk2 c1 f1 hBm
  go_wp2_with fail
  go_loopw [14, 4, 5, 6, 7] (fun i _ _ _ _ wr => CrashRel w p d F bm keep ks i wr ∧ Keeps F w2 wr) (fun i _ _ _ _ _ => ks.length - (intOf i).toNat)
  case atStart =>
    refine ⟨⟨0, R, Nat.zero_le _, rfl, H.out.ok, ?_, HK2.out⟩, Keeps.refl _ _⟩
    have : ((crashN keep ks d.L 0).filter fun q : Fl => amid (ks.take 0) q.name) = [] := by simp [amid]
    rw [this]
    exact HR2.out
  case round =>
    obtain ⟨⟨k, Rk, hk, rfl, hok, hr, hkw⟩, hkw2⟩ := hrel
    by_cases hlt : k < ks.length
    · have hk40 : k < 40 := by have := HKS.out; omega
      have hmemL : ks[k] ∈ (crashN keep ks d.L k).map Fl.name := by
        rw [crashN_names]
        obtain ⟨f0, hf0, e⟩ := (HN.out.2 _).1 (List.getElem_mem hlt)
        exact List.mem_map.2 ⟨f0, hf0, e⟩
      obtain ⟨f, hfL, hfx⟩ := List.mem_map.1 hmemL
      obtain ⟨b, hb⟩ := hr.row hfL
      have hnm := hok.nms f hfL
      have hsy := hok.syn f hfL
      have hl := hr.lookY hb (by unfold maxLen; omega)
      rw [hfx] at hl
      have hfb : f.bytes.size ≤ 1073741824 := by have h1 := total_mem hfL; have h2 : (total (crashN keep ks d.L k) : Int) ≤ d.room := hok.used; have h3 : d.room ≤ 1073741824 := hok.room2; omega
      have b0 : wr.cell? ⟨b, 0, none⟩ = some (.string f.bytes) := cell_of_row wr b 0 _ _ _ (hr.rows _ hb)
      have b1 : wr.cell? ⟨b, 1, none⟩ = some (.int .i64 f.syn) := cell_of_row wr b 1 _ _ _ (hr.rows _ hb)
      have f0 : wr.frozen? ⟨b, 0, none⟩ = false := frozen_block (hr.rows _ hb) 0
      have c2 := hr.c2
      have hpb : b ≠ p := hr.p_row hb
      have hn0 := keepOf_nonneg keep k
      have hKb := cutK_in hn0 hsy
      obtain ⟨K, hK⟩ : ∃ K : Nat, cutK (keepOf keep k) f = (K : Int) := ⟨(cutK (keepOf keep k) f).toNat, by omega⟩
      rw [hK] at hKb
      have hKn : K ≤ f.bytes.size := by omega
      have hKs := extract_size f.bytes hKn
      have HK0 := Lib.hid hK
      unfold cutK at hK
      have hSr := HS.out.keep hkw2 (fun q _ hq hx => by have := H.out.lt q hx; omega)
      obtain ⟨bs, os, hbs, hGs, hbsl, hxs⟩ := hSr.cell_ hlt
      have x0 := hxs 0 _ rfl
      simp only [Nat.mul_one, Nat.add_zero] at x0
      subst hbs
      have HKr := Lib.hid (HK.out.keep hkw (fun q _ hq hx => hG q hq hx))
      have hule := total_filter_le (fun q : Fl => amid (ks.take k) q.name) (crashN keep ks d.L k)
      have huk : (total (crashN keep ks d.L k) : Int) ≤ d.room := hok.used
      have hr30 : d.room ≤ 1073741824 := hok.room2
      obtain ⟨U, hU⟩ : ∃ U : Nat, total ((crashN keep ks d.L k).filter fun q : Fl => amid (ks.take k) q.name) = U := ⟨_, rfl⟩
      rw [hU] at hr hule
      have hU30 : U ≤ 1073741824 := by omega
      have HU := Lib.hid hU
      have HR := Lib.hid hr
      have HOK := Lib.hid hok
      have HKW := Lib.hid hkw
      have HKW2 := Lib.hid hkw2
      have Hfx := Lib.hid hfx
      have Hb := Lib.hid hb
      have HfL := Lib.hid hfL
      clear hU hule huk hr30 hmemL hr hok hkw hkw2 hfx hb hSr hxs hS2
      go_upto_if 22 with (fail)
      go_cut [6] (fun s6 wx => s6 = .int .i64 (keepOf keep k) ∧ wr = wx)
      case first =>
        by_cases hki : k < keep.length
        · obtain ⟨bk, ok, rfl, _, _, hxk⟩ := HKr.out.cell_ hki
          have y0 := hxk 0 _ rfl
          simp only [Nat.mul_one, Nat.add_zero] at y0
          clear hxk hl b0 b1 f0 c2 x0
          go_wp2_with fail
          go_meet
          exact ⟨by rw [keepOf_in hki], rfl⟩
        · clear hl b0 b1 f0 c2 x0
          go_wp2_with fail
          go_meet
          exact ⟨by rw [keepOf_out hki], rfl⟩
      case rest =>
        obtain ⟨rfl, rfl⟩ := hcut
        go_upto_region 8 with (fail)
        go_region
        have hk3 := (Keeps.one wr b 0 (.string (f.bytes.extract 0 K))).drew
        have hblk3 : (wr.setCell ⟨b, 0, none⟩ (.string (f.bytes.extract 0 K))).drew.heap[b]? = _ := setCell_block (o := 0) (HR.out.rows _ Hb.out) (.string (f.bytes.extract 0 K))
        generalize (wr.setCell ⟨b, 0, none⟩ (.string (f.bytes.extract 0 K))).drew = w3 at hk3 hblk3 ⊢
        clear b0 b1 f0 c2 x0 hl
        have b0 : w3.cell? ⟨b, 0, none⟩ = some (.string (f.bytes.extract 0 K)) := cell_of_row w3 b 0 _ _ _ hblk3
        have b1 : w3.cell? ⟨b, 1, none⟩ = some (.int .i64 f.syn) := cell_of_row w3 b 1 _ _ _ hblk3
        have f1 : w3.frozen? ⟨b, 1, none⟩ = false := frozen_block hblk3 1
        have HK3 := Lib.hid hk3
        have HBL3 := Lib.hid hblk3
        clear hk3 hblk3
        go_upto_region 10 with (fail)
        have hk4 := Keeps.one w3 b 1 (.int .i64 K)
        have hblk4 := setCell_block (o := 1) HBL3.out (.int .i64 K)
        generalize w3.setCell ⟨b, 1, none⟩ (.int .i64 K) = w4 at hk4 hblk4 ⊢
        clear b0 b1 f1
        have hp4 := (HK3.out.trans hk4).grownTo HR.out.blk (fun e => hpb e.symm)
        have b0 : w4.cell? ⟨b, 0, none⟩ = some (.string (f.bytes.extract 0 K)) := cell_of_row w4 b 0 _ _ _ hblk4
        have c1 : w4.cell? ⟨p, 1, none⟩ = some (.int .i64 U) := cell_of_row w4 p 1 _ _ _ hp4
        have f1 : w4.frozen? ⟨p, 1, none⟩ = false := frozen_block hp4 1
        have HK4 := Lib.hid (HK3.out.trans hk4)
        have HBL4 := Lib.hid hblk4
        have HP4 := Lib.hid hp4
        clear hk4 hblk4 hp4 HK3 HBL3
        go_region
        have hk5 := (Keeps.one w4 p 1 (.int .i64 ((U : Int) + (K : Int)))).drew
        have hblk5 : (w4.setCell ⟨p, 1, none⟩ (.int .i64 ((U : Int) + (K : Int)))).drew.heap[p]? = _ := setCell_block (o := 1) HP4.out (.int .i64 ((U : Int) + (K : Int)))
        generalize (w4.setCell ⟨p, 1, none⟩ (.int .i64 ((U : Int) + (K : Int)))).drew = w5 at hk5 hblk5 ⊢
        clear b0 c1 f1
        have hkb : Keeps (fun q => q = b ∨ q = p) wr w5 := (HK4.out.mono fun _ _ e => .inl e).andThen hk5 (fun _ _ e => .inr e)
        have hb5 := hk5.grownTo HBL4.out hpb
        have hnodup := HR.out.nodup
        have hoo := HOK.out
        have hkk := HK0.out
        have hg : ∀ q : Fl, (cutF (keepOf keep k) q).name = q.name := fun _ => rfl
        have hup := HR.out.upd Hb.out (g := cutF (keepOf keep k)) (u' := (U : Int) + (K : Int)) hg hkb (by
          show _ = some (Obj.cells #[.string (f.bytes.extract 0 (cutK (keepOf keep k) f).toNat), .int .i64 (cutK (keepOf keep k) f)] 111 (0, 0))
          rw [hkk]
          exact hb5) hblk5
        have hks := crashN_succ keep d.L hlt
        have hfu := total_filter_upd (S := amid (ks.take k)) (S' := amid (ks.take (k + 1))) hg (f := f) (by rw [Hfx.out]; exact amid_not hlt HN.out.1) (fun y => by rw [amid_succ hlt, Hfx.out]) hnodup HfL.out
        rw [Hfx.out] at hup hfu
        rw [← hks] at hup hfu
        rw [HU.out] at hfu
        have hcs := cutF_size hn0 hsy
        rw [hkk] at hcs
        have hle := total_upd_le (x := f.name) (g := cutF (keepOf keep k)) (L := crashN keep ks d.L k) (fun q hq => by
          have h1 := hoo.syn q hq
          have h2 := cutF_size hn0 h1
          have h3 := cutK_in hn0 h1
          omega)
        have hou := hoo.used
        have hoK := hoo.upd hnodup HfL.out hg ⟨by show 0 ≤ cutK (keepOf keep k) f; omega, by rw [hcs]; show cutK (keepOf keep k) f ≤ _; omega⟩ (by show (total (updL f.name _ (crashN keep ks d.L k)) : Int) ≤ d.room; have h1 : (total (crashN keep ks d.L k) : Int) ≤ d.room := hou; omega)
        rw [show updL f.name (cutF (keepOf keep k)) (⟨d.room, crashN keep ks d.L k⟩ : Dk).L = crashN keep ks d.L (k + 1) by rw [hks, Hfx.out]] at hoK
        have hbF := HR.out.fr _ Hb.out
        have hpF := HR.out.fp
        have hkF : Keeps F wr w5 := hkb.mono (fun q _ e => by rcases e with rfl | rfl; exact hbF; exact hpF)
        go_wp2_with fail
        go_roundw
        case rel =>
          rw [show (U : Int) + (K : Int) = ((U + (cutF (keepOf keep k) f).bytes.size : Nat) : Int) by omega, ← hfu] at hup
          exact ⟨⟨k + 1, (Rk.map fun r => if r.2.name = ks[k] then (r.1, cutF (keepOf keep k) r.2) else r), hlt, by go_num, hoK, hup, HKW.out.trans hkF⟩, HKW2.out.trans hkF⟩
        case measure => simp [intOf]; omega
    · have hkd : k = ks.length := by omega
      subst hkd
      go_wp2_with fail
      go_end0
      refine ⟨rfl, hkw, ks, HN.out, bm, Rk, ?_, hok⟩
      have hall : ((crashN keep ks d.L ks.length).filter fun q : Fl => amid (ks.take ks.length) q.name) = crashN keep ks d.L ks.length := by
        rw [List.filter_eq_self]
        intro q hq
        rw [List.take_length, amid_iff]
        have h1 : q.name ∈ (crashN keep ks d.L ks.length).map Fl.name := List.mem_map.2 ⟨q, hq, rfl⟩
        rw [crashN_names] at h1
        obtain ⟨f0, hf0, e⟩ := List.mem_map.1 h1
        exact (HN.out.2 _).2 ⟨f0, hf0, e⟩
      rw [hall] at hr
      exact hr
end Go.Proofs.YtoegdpcfhmjnaaaGreatDoor
