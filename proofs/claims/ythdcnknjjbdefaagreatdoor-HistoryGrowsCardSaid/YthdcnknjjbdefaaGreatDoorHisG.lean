/- The history: all: the places of ops. Under the stated premises on sizes. -/
import Derived.Test.YthdcnknjjbdefaaGreatDoorHisS
import Derived.Test.YthdcnknjjbdefaaGreatDoorHisA
import Derived.Test.YthdcnknjjbdefaaGreatDoorLayI
import Derived.Shelf.Abstract
import Derived.Sort.LotA
import Derived.Test.YthdcnknjjbdefaaGreatDoorHisCA
import Derived.Test.YthdcnknjjbdefaaGreatDoorHisDB
import Derived.Deep.RegionHeld3
import Derived.Deep.DeepCutAuto
import Derived.Deep.MidRow
/- The history: the order in which ops are gone through: cmp.Compare, the closure, slices.SortStableFunc of at most 20. Under the stated premises on sizes. -/
namespace Go.Proofs.YthdcnknjjbdefaaGreatDoor.His
open Go.RowKit Go.Bl
attribute [local go_sem ↓] Go.wp_at_zero Go.wp_at_succ

def cmpZ (x y : Int) : Int := if x < y then -1 else if y < x then 1 else 0
theorem nan_any (w : World) (x : Int) : Calls Tryz.prog 54 #[.int .i64 x] w fun e w' => e = .returned (.bool false) ∧ w = w' := by
  have d : (x != x) = false := by simp
  go_enter Tryz.func54, Tryz.ntmps54
  go_wp2_with fail
  go_ret
  exact ⟨rfl, rfl⟩
theorem compare_any (w : World) (x y : Int) : Calls Tryz.prog 42 #[.int .i64 x, .int .i64 y] w fun e w' => e = .returned (.int .i64 (cmpZ x y)) ∧ w = w' := by
  obtain ⟨R, hR⟩ : ∃ R, cmpZ x y = R := ⟨_, rfl⟩
  rw [hR]
  have HR := Lib.hid hR
  clear hR
  go_enter Tryz.func42, Tryz.ntmps42
  go_wp2_with fail
  refine (nan_any w x).mono ?_
  rintro e w1 ⟨rfl, rfl⟩
  go_wp2_with fail
  refine (nan_any w y).mono ?_
  rintro e w1 ⟨rfl, rfl⟩
  by_cases h1 : x < y
  · have d1 : decide (x < y) = true := decide_eq_true h1
    have HR2 : Hid (R = -1) := Lib.hid (by rw [← HR.out, cmpZ, if_pos h1])
    clear h1
    go_wp2_with fail
    go_ret
    exact ⟨by rw [HR2.out]; rfl, rfl⟩
  · have d1 : decide (x < y) = false := decide_eq_false h1
    by_cases h2 : y < x
    · have d2 : decide (y < x) = true := decide_eq_true h2
      have d2' : decide (x > y) = true := decide_eq_true h2
      have HR2 : Hid (R = 1) := Lib.hid (by rw [← HR.out, cmpZ, if_neg h1, if_pos h2])
      clear h1 h2
      go_wp2_with fail
      go_ret
      exact ⟨by rw [HR2.out]; rfl, rfl⟩
    · have d2 : decide (y < x) = false := decide_eq_false h2
      have d2' : decide (x > y) = false := decide_eq_false h2
      have HR2 : Hid (R = 0) := Lib.hid (by rw [← HR.out, cmpZ, if_neg h1, if_neg h2])
      clear h1 h2
      go_wp2_with fail
      go_ret
      exact ⟨by rw [HR2.out]; rfl, rfl⟩

/-- The closure that compares two ops by when they began. -/
theorem less_any (w : World) (bx : Nat) (v : Value) (ops : List Hop) (G : Nat → Prop) (hb : w.cell? ⟨bx, 0, none⟩ = some v) (hS : Sl w G 17 opc v ops) (i k : Nat) (hi : i < ops.length) (hk : k < ops.length) :
    Calls Tryz.prog 41 #[.int .i64 i, .int .i64 k, .pointer (some ⟨bx, 0, none⟩)] w fun e w' => e = .returned (.int .i64 (cmpZ (ops.getD i default).start (ops.getD k default).start)) ∧ ∃ q, w' = w.drewN q := by
  rw [getD_at hi, getD_at hk]
  obtain ⟨A, c, rfl, hA1, hA2⟩ := hS.shape
  unfold maxLen at hA2
  obtain ⟨b, o, rfl, _, _, hx⟩ := hS.cell_ hi
  obtain ⟨b', o', he, _, _, hy⟩ := hS.cell_ hk
  cases he
  have x2 := hx 2 _ rfl
  have y2 := hy 2 _ rfl
  have HC := Lib.hid compare_any
  have hi1 : (i : Int) < (ops.length : Int) := by omega
  have hk1 : (k : Int) < (ops.length : Int) := by omega
  have hi0 : (0 : Int) ≤ (i : Int) := by omega
  have hk0 : (0 : Int) ≤ (k : Int) := by omega
  clear hS hx hy
  generalize ops[i].start = s1 at x2 ⊢
  generalize ops[k].start = s2 at y2 ⊢
  go_enter Tryz.func41, Tryz.ntmps41
  go_wp2_with fail
  go_quiet (first
    | (go_at_call 42
       exact (HC.out _ _ _).mono fun _ _ h => ⟨h.1, _, h.2.symm⟩))
  go_wp2_with fail
  go_ret
  exact ⟨rfl, _, rfl⟩
end Go.Proofs.YthdcnknjjbdefaaGreatDoor.His

/- The history: slices.SortStableFunc of at most 20 numbers of ops. Under the stated premises on sizes. -/
namespace Go.Proofs.YthdcnknjjbdefaaGreatDoor.His
open Go.RowKit Go.Bl
attribute [local go_sem ↓] Go.wp_at_zero Go.wp_at_succ

section
variable {α : Type} [Inhabited α]
theorem putRow_keeps (enc : α → Value) (w : World) (blk off : Nat) (d : Array α) : Keeps (fun x => x = blk) w (Go.Sort.putRow enc w blk off d) :=
  ⟨rfl, rfl, rfl, by simp [Go.Sort.putRow, Go.Sort.mapBlock], fun k _ hk => by
    have hk : ¬ blk = k := fun e => hk e.symm
    simp [Go.Sort.putRow, Go.Sort.mapBlock, Array.getElem?_modify, hk]⟩
theorem sortWorld_keeps (enc : α → Value) (w : World) (blk off m : Nat) (d : Array α) (os : Array Obj) : Keeps (fun x => x = blk) w (sortWorld enc w blk off m d os) := by
  have h1 : Keeps (fun x => x = blk) w (Go.Sort.ahead w m) := ⟨rfl, rfl, rfl, Nat.le_refl _, fun _ _ _ => rfl⟩
  have h2 := h1.trans (putRow_keeps enc (Go.Sort.ahead w m) blk off d)
  refine h2.trans ⟨rfl, rfl, rfl, ?_, fun k hk _ => ?_⟩
  · show _ ≤ (_ ++ os).size
    rw [Array.size_append]
    exact Nat.le_add_right _ _
  · show (_ ++ os)[k]? = _
    rw [Array.getElem?_append_left hk]
end

def encF {N : Nat} (x : Fin (N + 1)) : Value := .int .i64 x.val
def stO (ops : List Hop) (i : Nat) : Int := (ops.getD i default).start
def cfO (ops : List Hop) (N : Nat) (x y : Fin (N + 1)) : Int := cmpZ (stO ops x.val) (stO ops y.val)
theorem ltO (ops : List Hop) (N : Nat) (x y : Fin (N + 1)) : ltOf (cfO ops N) x y = decide (stO ops x.val < stO ops y.val) := by
  unfold ltOf cfO cmpZ
  split
  · rename_i h
    rw [decide_eq_true h]; rfl
  · rename_i h
    rw [decide_eq_false h]
    split <;> rfl
theorem swoO (ops : List Hop) (N : Nat) : Go.Sort.SWO (ltOf (cfO ops N)) := by
  refine ⟨fun x => ?_, fun x y z h1 h2 => ?_, fun x y z h1 h2 => ?_⟩
  · rw [ltO]; simp
  · rw [ltO, decide_eq_true_eq] at h1 h2 ⊢; omega
  · rw [ltO, decide_eq_false_iff_not] at h1 h2 ⊢; omega
theorem sl_block {α : Type} {w : World} {F F' : Nat → Prop} {k : Nat} {enc : α → List Value} {v : Value} {l : List α} (h : Sl w F k enc v l) (h' : ∀ b, F b → F' b) : Sl w F' k enc v l := h.mono fun b _ hb => h' b hb

section
variable {w : World} {bx blk cap N : Nat} {v : Value} {ops : List Hop} {G : Nat → Prop}
theorem reads_any (hb : w.cell? ⟨bx, 0, none⟩ = some v) (hbx : bx ≠ blk) (hS : Sl w G 17 opc v ops) (hG : ∀ x, G x → x ≠ blk) (hN : ops.length = N + 1) {wz : World} (hK : Keeps (fun x => x = blk) w wz) :
    CmpReads Tryz.prog 41 #[.pointer (some ⟨bx, 0, none⟩)] (encF (N := N)) (cfO ops N) blk 0 (N + 1) wz := by
  intro m os dk hs x y
  have hk := hK.trans (sortWorld_keeps (encF (N := N)) wz blk 0 m dk os)
  have hbl := World.block_lt_of_cell? _ _ hb
  exact less_any _ bx v ops G ((hk.cell (a := ⟨bx, 0, none⟩) hbl hbx).trans hb) (hS.keep hk (fun z _ hz => hG z hz)) x.val y.val (by have := x.isLt; omega) (by have := y.isLt; omega)
/-- The row is sorted from a to b. -/
def SrtAt (ops : List Hop) (blk : Nat) (w : World) (N : Nat) (d : Array (Fin (N + 1))) (a b : Nat) (w' : World) : Prop :=
  ∃ d' : Array (Fin (N + 1)), d'.size = N + 1 ∧ Go.Sort.PermIn a b d d' ∧ Go.Sort.SortedIn (ltOf (cfO ops N)) a b d' ∧ Keeps (fun x => x = blk) w w' ∧ Go.Sort.Holds encF w' blk 0 d'
theorem ins_any (hb : w.cell? ⟨bx, 0, none⟩ = some v) (hbx : bx ≠ blk) (hS : Sl w G 17 opc v ops) (hG : ∀ x, G x → x ≠ blk) (hN : ops.length = N + 1) (hNb : N + 1 ≤ 1000) {wz : World} (hK : Keeps (fun x => x = blk) w wz) (d : Array (Fin (N + 1))) (hd : d.size = N + 1) (hH : Go.Sort.Holds encF wz blk 0 d) (M : Nat) (hM : N + 1 = M) (a b : Nat) (hab : a ≤ b) (hbn : b ≤ M) :
    Calls Tryz.prog 67 #[.slice (some ⟨blk, 0, none⟩) M cap, .int .i64 a, .int .i64 b, .func (.func 41) #[] #[.pointer (some ⟨bx, 0, none⟩)]] wz fun e w' =>
      e = .returned (.tuple #[]) ∧ SrtAt ops blk w N d a b w' := by
  subst hM
  have h := Any.insertionSortCmpFunc_one Tryz.insort67 (encF (N := N)) (fun _ => rfl) (cfO ops N) 41 #[.pointer (some ⟨bx, 0, none⟩)] blk 0 cap a b d wz (enters_of Tryz.func41 (by kernel_rfl) rfl)
    (by rw [hd]; exact reads_any hb hbx hS hG hN hK) hH hab (by omega) (by omega)
  rw [hd] at h
  refine h.mono ?_
  rintro e w' ⟨rfl, q, rfl⟩
  have hs := Go.Sort.insertionSort_holds (lt := ltOf (cfO ops N)) (swoO ops N) d a b hab (by omega)
  exact ⟨rfl, _, by rw [hs.1.1, hd], hs.1, hs.2, (hK.trans (putRow_keeps _ _ _ _ _)).drewN q, Go.Sort.holds_putRow _ _ _ _ d _ hH (by rw [hs.1.1])⟩
/-- In two steps. -/
theorem SrtAt.all {d dz : Array (Fin (N + 1))} {w' : World} {a M : Nat} (hM : N + 1 = M) (hd : d.size = N + 1) (hz : dz.size = N + 1) (hp : Go.Sort.PermIn 0 M d dz) (hs : Go.Sort.SortedIn (ltOf (cfO ops N)) 0 a dz) (ha : a = 0 ∨ (a = 20 ∧ M = 20)) (h : SrtAt ops blk w N dz a M w') : SrtAt ops blk w N d 0 M w' := by
  obtain ⟨d', h1, h2, h3, h4, h5⟩ := h
  refine ⟨d', h1, Go.Sort.permIn_trans _ _ _ _ _ hp (Go.Sort.permIn_mono _ _ a M 0 M (Nat.zero_le _) (Nat.le_refl _) (by omega) h2), ?_, h4, h5⟩
  rcases ha with rfl | ⟨rfl, rfl⟩
  · exact h3
  · intro i j hi hij hj
    rw [h2.2.1 i (.inl (by omega)), h2.2.1 j (.inl (by omega))]
    exact hs i j hi hij hj
theorem SrtAt.half {d dz : Array (Fin (N + 1))} {w' : World} {M : Nat} (hM : N + 1 = M) (hp : Go.Sort.PermIn 0 M d dz) (hz : dz.size = N + 1) (h20 : 20 ≤ M) (h : SrtAt ops blk w N dz 0 20 w') :
    ∃ d', d'.size = N + 1 ∧ Go.Sort.PermIn 0 M d d' ∧ Go.Sort.SortedIn (ltOf (cfO ops N)) 0 20 d' ∧ Keeps (fun x => x = blk) w w' ∧ Go.Sort.Holds encF w' blk 0 d' := by
  obtain ⟨d', h1, h2, h3, h4, h5⟩ := h
  exact ⟨d', h1, Go.Sort.permIn_trans _ _ _ _ _ hp (Go.Sort.permIn_mono _ _ 0 20 0 M (Nat.le_refl _) h20 (by omega) h2), h3, h4, h5⟩

set_option maxHeartbeats 2000000 in
theorem stable_any (hb : w.cell? ⟨bx, 0, none⟩ = some v) (hbx : bx ≠ blk) (hS : Sl w G 17 opc v ops) (hG : ∀ x, G x → x ≠ blk) (hN : ops.length = N + 1) (M : Nat) (hM : N + 1 = M) (hNb : M ≤ 20) (d : Array (Fin (N + 1))) (hd : d.size = N + 1) (hH : Go.Sort.Holds encF w blk 0 d) :
    Calls Tryz.prog 53 #[.slice (some ⟨blk, 0, none⟩) M cap, .int .i64 M, .func (.func 41) #[] #[.pointer (some ⟨bx, 0, none⟩)]] w fun e w' =>
      e = .returned (.tuple #[]) ∧ SrtAt ops blk w N d 0 M w' := by
  have hI := fun (wz : World) (hK : Keeps (fun x => x = blk) w wz) (dz : Array (Fin (N + 1))) (h1 : dz.size = N + 1) (h2 : Go.Sort.Holds encF wz blk 0 dz) (a b : Nat) (h3 : a ≤ b) (h4 : b ≤ M) => ins_any (cap := cap) hb hbx hS hG hN (by omega) hK dz h1 h2 M hM a b h3 h4
  have HI := Lib.hid hI
  have HH := Lib.hid hH
  have HM := Lib.hid hM
  have h0 : Hid (Go.Sort.PermIn 0 M d d ∧ Go.Sort.SortedIn (ltOf (cfO ops N)) 0 0 d) := Lib.hid ⟨Go.Sort.permIn_refl d 0 M, fun i j _ _ h => by omega⟩
  have HD := Lib.hid hd
  clear hI hb hbx hS hG hN hH hd hM
  go_enter Tryz.func53, Tryz.ntmps53
  go_wp2_with fail
  go_loopw [7, 8] (fun i j wr => ∃ (a : Nat) (dz : Array (Fin (N + 1))), i = .int .i64 a ∧ j = .int .i64 ((a : Int) + 20) ∧ (a = 0 ∨ (a = 20 ∧ M = 20)) ∧ dz.size = N + 1 ∧ Go.Sort.PermIn 0 M d dz ∧ Go.Sort.SortedIn (ltOf (cfO ops N)) 0 a dz ∧ Keeps (fun x => x = blk) w wr ∧ Go.Sort.Holds encF wr blk 0 dz) (fun i _ _ => 40 - (RowKit.intOf i).toNat)
  case atStart => exact ⟨0, d, rfl, rfl, .inl rfl, HD.out, h0.out.1, h0.out.2, Keeps.refl _ _, HH.out⟩
  case round =>
    obtain ⟨a, dz, rfl, rfl, ha, hdz, hp, hs, hk, hh⟩ := hrel
    have HP := Lib.hid hp
    have HS := Lib.hid hs
    have HDZ := Lib.hid hdz
    have HK := Lib.hid hk
    have HHZ := Lib.hid hh
    clear hp hs hdz hk hh
    by_cases hlt : a + 20 ≤ M
    · have ha0 : a = 0 := by omega
      subst ha0
      have d1 : decide (((0 : Nat) : Int) + 20 ≤ (M : Int)) = true := decide_eq_true (by omega)
      have d2 : decide ((20 : Int) ≤ (M : Int)) = true := decide_eq_true (by omega)
      go_wp2_with fail
      have hc := HI.out wr HK.out dz HDZ.out HHZ.out 0 20 (by omega) (by omega)
      refine hc.mono ?_
      rintro e w5 ⟨rfl, hsr⟩
      obtain ⟨d', g1, g2, g3, g4, g5⟩ := hsr.half HM.out HP.out HDZ.out (by omega)
      have G2 := Lib.hid g2
      have G3 := Lib.hid g3
      have G4 := Lib.hid g4
      have G5 := Lib.hid g5
      clear hc hsr g2 g3 g4 g5
      go_wp2_with fail
      go_roundw
      case rel => exact ⟨20, d', rfl, rfl, .inr ⟨rfl, by omega⟩, g1, G2.out, G3.out, G4.out, G5.out⟩
      case measure => simp [RowKit.intOf]
    · have d1 : decide ((a : Int) + 20 ≤ (M : Int)) = false := decide_eq_false (by omega)
      have d2 : decide ((20 : Int) < (M : Int)) = false := decide_eq_false (by omega)
      go_wp2_with fail
      have hc := HI.out wr HK.out dz HDZ.out HHZ.out a M (by omega) (by omega)
      refine hc.mono ?_
      rintro e w5 ⟨rfl, hsr⟩
      have hsr := hsr.all HM.out HD.out HDZ.out HP.out HS.out ha
      have HSR := Lib.hid hsr
      clear hc hsr
      go_wp2_with fail
      go_loopw [6] (fun i wr => i = .int .i64 20 ∧ SrtAt ops blk w N d 0 M wr) (fun _ _ => 0)
      case atStart => exact ⟨rfl, HSR.out⟩
      case round =>
        obtain ⟨rfl, hr⟩ := hrel
        have HR := Lib.hid hr
        clear hr
        go_wp2_with fail
        go_end0
        exact ⟨rfl, HR.out⟩
theorem sort_any (hb : w.cell? ⟨bx, 0, none⟩ = some v) (hbx : bx ≠ blk) (hS : Sl w G 17 opc v ops) (hG : ∀ x, G x → x ≠ blk) (hN : ops.length = N + 1) (M : Nat) (hM : N + 1 = M) (hNb : M ≤ 20) (d : Array (Fin (N + 1))) (hd : d.size = N + 1) (hH : Go.Sort.Holds encF w blk 0 d) :
    Calls Tryz.prog 40 #[.slice (some ⟨blk, 0, none⟩) M cap, .func (.func 41) #[] #[.pointer (some ⟨bx, 0, none⟩)]] w fun e w' =>
      e = .returned (.tuple #[]) ∧ SrtAt ops blk w N d 0 M w' := by
  have HS := Lib.hid (stable_any (cap := cap) hb hbx hS hG hN M hM hNb d hd hH)
  clear hb hbx hS hG hN hM hd hH
  go_enter Tryz.func40, Tryz.ntmps40
  go_wp2_with fail
  refine HS.out.mono ?_
  rintro e w5 ⟨rfl, hsr⟩
  have HSR := Lib.hid hsr
  clear hsr
  go_wp2_with fail
  go_end0
  exact ⟨rfl, HSR.out⟩
theorem extract_all {α : Type} (d : Array α) (n : Nat) (h : d.size = n) : d.extract 0 n = d := by subst h; simp
/-- The order that the row holds. -/
theorem SrtAt.order {log : List Ent} {w' : World} (hN : ops.length = N + 1) {d : Array (Fin (N + 1))} (hd : d = (List.finRange (N + 1)).toArray) (h : SrtAt ops blk w N d 0 (N + 1) w') :
    ∃ ord : List Nat, (gm log ops).Order ord ∧ ord.length = N + 1 ∧ Keeps (fun x => x = blk) w w' ∧ ∀ i, ∀ h : i < ord.length, w'.cell? ⟨blk, i, none⟩ = some (.int .i64 ord[i]) := by
  obtain ⟨d', h1, h2, h3, h4, h5⟩ := h
  have hds : d.size = N + 1 := by rw [hd]; simp
  have hperm : d'.toList.Perm (List.finRange (N + 1)) := by
    have := h2.2.2
    rw [extract_all d' _ h1, extract_all d _ hds, hd] at this
    simpa using this
  refine ⟨d'.toList.map Fin.val, ⟨?_, ?_⟩, by simp [h1], h4, fun i hi => ?_⟩
  · show (d'.toList.map Fin.val).Perm (List.range ops.length)
    rw [hN]
    have h := hperm.map Fin.val
    rwa [show (List.finRange (N + 1)).map Fin.val = List.range (N + 1) from List.ext_getElem (by simp) (by simp)] at h
  · rw [List.pairwise_map, List.pairwise_iff_getElem]
    intro i j hi hj hij
    have hi' : i < d'.size := by simpa using hi
    have hj' : j < d'.size := by simpa using hj
    have := h3 i j (Nat.zero_le _) hij (by omega)
    rw [ltO, decide_eq_false_iff_not, getElem!_pos d' i hi', getElem!_pos d' j hj'] at this
    show stO ops _ ≤ stO ops _
    simp only [Array.getElem_toList]
    omega
  · have hi' : i < d'.size := by simpa using hi
    have := (h5 i hi').1
    rw [Nat.zero_add] at this
    rw [this, getElem!_pos d' i hi']
    simp [encF]
end
end Go.Proofs.YthdcnknjjbdefaaGreatDoor.His

/- The history: an op's place, whatever it is; rows of numbers. Under the stated premises on sizes. -/
namespace Go.Proofs.YthdcnknjjbdefaaGreatDoor.His
open Go.RowKit Go.Bl
attribute [local go_sem ↓] Go.wp_at_zero Go.wp_at_succ

theorem findK_le (p : Nat → Bool) : ∀ (f k : Nat), findK p f k < (k + f : Nat) ∨ findK p f k = -1
  | 0, _ => .inr rfl
  | f + 1, k => by
    unfold findK
    split
    · exact .inl (by omega)
    · rcases findK_le p f (k + 1) with h | h
      · exact .inl (by omega)
      · exact .inr h
theorem placeS_le (log : List Ent) (o : Hop) (m : Int) : -1 ≤ placeS log o m ∨ o.kind = 1 := by
  by_cases h : o.kind = 1
  · exact .inr h
  · refine .inl ?_
    unfold placeS
    rw [if_neg h]
    by_cases h0 : 0 ≤ findK (fun k => seenB (stK log k) o) (log.length + 1 - m.toNat) m.toNat
    · omega
    · have : ∀ (p : Nat → Bool) (f k : Nat), -1 ≤ findK p f k := fun p f => by
        induction f with
        | zero => intro k; unfold findK; omega
        | succ f ih =>
          intro k
          unfold findK
          split
          · omega
          · exact ih (k + 1)
      exact this _ _ _
theorem placeS_top (log : List Ent) (o : Hop) (m : Int) (hm : m ≤ 2000) (hl : log.length ≤ 2000) : placeS log o m ≤ 2001 := by
  unfold placeS
  split
  · split <;> omega
  · have : ∀ (p : Nat → Bool) (f k : Nat), findK p f k ≤ (k + f : Nat) := fun p f => by
      induction f with
      | zero => intro k; unfold findK; omega
      | succ f ih =>
        intro k
        unfold findK
        split
        · omega
        · have := ih (k + 1); omega
    have := this (fun k => seenB (stK log k) o) (log.length + 1 - m.toNat) m.toNat
    omega
theorem placeS_len (log : List Ent) (o : Hop) (m : Int) : placeS log o m ≤ log.length ∨ placeS log o m = -1 := by
  unfold placeS
  split
  · split
    · exact .inr rfl
    · exact .inl (by omega)
  · by_cases hm : log.length + 1 ≤ m.toNat
    · rw [show log.length + 1 - m.toNat = 0 by omega]
      exact .inr rfl
    · rcases findK_le (fun k => seenB (stK log k) o) (log.length + 1 - m.toNat) m.toNat with h | h
      · exact .inl (by omega)
      · exact .inr h

/-- What is asked of an op. -/
structure OpOk (w : World) (G : Nat → Prop) (o : Hop) : Prop where
  kind : o.kind = 1 ∨ o.kind = 2
  ev : Sl w G 2 evc o.evv o.evs
  bev : ∃ A n c, o.bev = .slice A n c
  st : o.stream.size ≤ maxLen
  pos : -9223372036854775808 ≤ o.out.pos ∧ o.out.pos ≤ 9223372036854775807
theorem OpOk.fresh {w w' : World} {G : Nat → Prop} {o : Hop} (h : OpOk w G o) (hB : Below w.heap.size w w') : OpOk w' G o := ⟨h.kind, h.ev.fresh hB, h.bev, h.st, h.pos⟩
theorem OpOk.keep {w w' : World} {G H : Nat → Prop} {o : Hop} (h : OpOk w G o) (hk : Keeps H w w') (hd : ∀ k, k < w.heap.size → G k → ¬ H k) : OpOk w' G o := ⟨h.kind, h.ev.keep hk hd, h.bev, h.st, h.pos⟩
theorem place_any (w : World) (p : Nat) (log : List Ent) (h : PlAt w p log) (hok : LogOk log) (hl : log.length ≤ 1000) (o : Hop) (G : Nat → Prop) (ho : OpOk w G o) (m : Int) (hm : 0 ≤ m ∧ m ≤ 2000) :
    Calls Tryz.prog 44 #[.pointer (some ⟨p, 0, none⟩), opv o, .int .i64 m] w fun e w' => e = .returned (.int .i64 (placeS log o m)) ∧ Below w.heap.size w w' := by
  by_cases hk : o.kind = 1
  · exact place_app w p log h hl o hk ho.pos m hm
  · exact place_read w p log h hok hl o hk G ho.ev ho.st m hm

/-- A block of numbers. -/
def RowI (w : World) (g : Nat) (L : List Int) : Prop := w.heap[g]? = some (.cells (L.map (Value.int .i64)).toArray 3 (0, 0))
section
variable {w w' : World} {g : Nat} {L : List Int}
theorem RowI.lt (h : RowI w g L) : g < w.heap.size := (Array.getElem?_eq_some_iff.1 h).1
theorem RowI.keep {G : Nat → Prop} (h : RowI w g L) (hk : Keeps G w w') (hg : ¬ G g) : RowI w' g L := hk.grownTo h hg
theorem RowI.fresh (h : RowI w g L) (hB : Below w.heap.size w w') : RowI w' g L := (hB.block g h.lt).trans h
theorem RowI.cell (h : RowI w g L) {k : Nat} (hk : k < L.length) : w.cell? ⟨g, k, none⟩ = some (.int .i64 L[k]) := by
  rw [cell_of_row w g k _ _ _ h]
  simp [hk]
theorem RowI.frozen (h : RowI w g L) (k : Nat) : w.frozen? ⟨g, k, none⟩ = false := frozen_block h k
theorem RowI.set (h : RowI w g L) (k : Nat) (x : Int) : RowI (w.setCell ⟨g, k, none⟩ (.int .i64 x)) g (L.set k x) := by
  have := setCell_block (o := k) h (.int .i64 x)
  unfold RowI
  rw [List.map_set]
  simpa using this
theorem one_set (w : World) (g k : Nat) (x : Value) : Keeps (fun z => z = g) w (w.setCell ⟨g, k, none⟩ x) := (Keeps.refl (fun z => z = g) w).setCell (p := ⟨g, k, none⟩) (fun _ => rfl) x
end
theorem infoInt : (Tryz.prog.info? 3).map (fun i => (i.zero, i.size, i.bytes)) = some (some (.int .i64 0), 1, 8) := by kernel_rfl
theorem make_ints (w : World) (n : Nat) (hn : n ≤ 1000000) : ∃ w', (Instr.makeSlice 43 (.int .i64 n) (.int .i64 n)).run Tryz.prog w = .ok (.slice (some ⟨w.heap.size, 0, none⟩) n n) w' ∧ Below w.heap.size w w' ∧ w'.heap.size = w.heap.size + 1 ∧ RowI w' w.heap.size (List.replicate n 0) := by
  obtain ⟨i, hi, h1, h2, h3⟩ := info_parts infoInt
  have hr := run_make (P := Tryz.prog) w 43 3 i (.int .i64 0) Tryz.underlying43 hi h1 .i64 .i64 n n (by omega) (Int.le_refl _) (by rw [h3]; omega) (by omega)
  rw [h2, Nat.mul_one, Int.toNat_natCast] at hr
  refine ⟨_, hr, (Below.refl _ w).alloc (Nat.le_refl _) _, World.size_alloc _ _, ?_⟩
  unfold RowI
  rw [heap_alloc_new]
  have : madeCells (Value.int .i64 0).cells n = ((List.replicate n (0 : Int)).map (Value.int .i64)).toArray := by
    apply Array.ext'
    show (madeCells #[Value.int .i64 0] n).toList = _
    rw [toList_madeCells_one, List.map_replicate]
  rw [this]
/-- The first k are what f says. -/
def fillI (n k : Nat) (f : Nat → Int) : List Int := (List.range n).map fun j => if j < k then f j else 0
theorem fillI_len (n k : Nat) (f : Nat → Int) : (fillI n k f).length = n := by simp [fillI]
theorem fillI_zero (n : Nat) (f : Nat → Int) : fillI n 0 f = List.replicate n 0 := List.ext_getElem (by simp [fillI]) fun i h1 h2 => by simp [fillI]
theorem fillI_all (n : Nat) (f : Nat → Int) : fillI n n f = (List.range n).map f := List.ext_getElem (by simp [fillI]) fun i h1 h2 => by
  have : i < n := by simpa [fillI] using h1
  simp [fillI, this]
theorem fillI_set {n k : Nat} (f : Nat → Int) : (fillI n k f).set k (f k) = fillI n (k + 1) f := List.ext_getElem (by simp [fillI]) fun i h1 h2 => by
  simp only [fillI, List.getElem_set, List.getElem_map, List.getElem_range]
  by_cases e : k = i
  · subst e; simp
  · have : (i < k + 1) = (i < k) := by simp; omega
    simp [e, this]
/-- Places as a list. -/
def plL (n : Nat) (P : Nat → Int) : List Int := (List.range n).map P
theorem plL_len (n : Nat) (P : Nat → Int) : (plL n P).length = n := by simp [plL]
theorem plL_at {n k : Nat} (P : Nat → Int) (h : k < (plL n P).length) : (plL n P)[k] = P k := by simp [plL]
theorem plL_set {n k : Nat} (P : Nat → Int) (x : Int) : (plL n P).set k x = plL n (upd P k x) := List.ext_getElem (by simp [plL]) fun i h1 h2 => by
  simp only [plL, List.getElem_set, List.getElem_map, List.getElem_range, upd]
  by_cases e : k = i
  · subst e; simp
  · simp [e, Ne.symm e]
theorem Gm.run_skip (g : Gm) {i : Nat} {r : List Nat} {P : Nat → Int} (h : g.cnt i = false) : g.run (i :: r) P = g.run r P := by
  conv => lhs; unfold Gm.run
  rw [if_neg (by simp [h])]
theorem Gm.run_no (g : Gm) {i : Nat} {r : List Nat} {P : Nat → Int} (h : g.cnt i = true) (h2 : g.pl i (g.lst P i g.n) < 0) : g.run (i :: r) P = (P, i + 1) := by
  conv => lhs; unfold Gm.run
  rw [if_pos h, if_pos h2]
theorem Gm.run_go (g : Gm) {i : Nat} {r : List Nat} {P : Nat → Int} (h : g.cnt i = true) (h2 : ¬ g.pl i (g.lst P i g.n) < 0) : g.run (i :: r) P = g.run r (upd P i (g.pl i (g.lst P i g.n))) := by
  conv => lhs; unfold Gm.run
  rw [if_pos h, if_neg h2]
theorem Gm.lst_top (g : Gm) {P : Nat → Int} {b : Int} (hb : 0 ≤ b) (hP : ∀ j, P j ≤ b) (i : Nat) : ∀ k, g.lst P i k ≤ b
  | 0 => hb
  | k + 1 => by
    have := g.lst_top hb hP i k
    have := hP k
    unfold Gm.lst
    split <;> omega
end Go.Proofs.YthdcnknjjbdefaaGreatDoor.His

/- The history: all: the places of ops. Under the stated premises on sizes. -/
namespace Go.Proofs.YthdcnknjjbdefaaGreatDoor.His
open Go.RowKit Go.Bl
attribute [local go_sem ↓] Go.wp_at_zero Go.wp_at_succ

/-- An empty row is sorted as it is. -/
theorem ins_none (w : World) (A : Option Addr) (c : Nat) (f : Value) : Calls Tryz.prog 67 #[.slice A 0 c, .int .i64 0, .int .i64 0, f] w fun e w' => e = .returned (.tuple #[]) ∧ w = w' := by
  go_enter Tryz.func67, Tryz.ntmps67
  go_wp2_with fail
  go_loopw [8] (fun i wr => i = .int .i64 1 ∧ w = wr) (fun _ _ => 0)
  case atStart => exact ⟨rfl, rfl⟩
  case round =>
    obtain ⟨rfl, rfl⟩ := hrel
    go_wp2_with fail
    go_end0
    exact ⟨rfl, rfl⟩
theorem stable_none (w : World) (A : Option Addr) (c : Nat) (f : Value) : Calls Tryz.prog 53 #[.slice A 0 c, .int .i64 0, f] w fun e w' => e = .returned (.tuple #[]) ∧ w = w' := by
  go_enter Tryz.func53, Tryz.ntmps53
  go_wp2_with fail
  go_loopw [7, 8] (fun i j wr => i = .int .i64 0 ∧ j = .int .i64 20 ∧ w = wr) (fun _ _ _ => 0)
  case atStart => exact ⟨rfl, rfl, rfl⟩
  case round =>
    obtain ⟨rfl, rfl, rfl⟩ := hrel
    go_wp2_with fail
    refine (ins_none w A c f).mono ?_
    rintro e w2 ⟨rfl, rfl⟩
    go_wp2_with fail
    go_loopw [6] (fun i wr => i = .int .i64 20 ∧ w = wr) (fun _ _ => 0)
    case atStart => exact ⟨rfl, rfl⟩
    case round =>
      obtain ⟨rfl, rfl⟩ := hrel
      go_wp2_with fail
      go_end0
      exact ⟨rfl, rfl⟩
theorem sort_none (w : World) (A : Option Addr) (c : Nat) (f : Value) : Calls Tryz.prog 40 #[.slice A 0 c, f] w fun e w' => e = .returned (.tuple #[]) ∧ w = w' := by
  go_enter Tryz.func40, Tryz.ntmps40
  go_wp2_with fail
  refine (stable_none w A c f).mono ?_
  rintro e w2 ⟨rfl, rfl⟩
  go_wp2_with fail
  go_end0
  exact ⟨rfl, rfl⟩
/-- The order of the ops, as the row of their numbers holds it. -/
theorem order_any (w : World) (log : List Ent) (ops : List Hop) (h20 : ops.length ≤ 20) (bx g : Nat) (v : Value) (G : Nat → Prop) (hb : w.cell? ⟨bx, 0, none⟩ = some v) (hbx : bx ≠ g) (hS : Sl w G 17 opc v ops) (hG : ∀ x, G x → x ≠ g) (hr : RowI w g (plL ops.length fun i => i)) :
    Calls Tryz.prog 40 #[.slice (some ⟨g, 0, none⟩) ops.length ops.length, .func (.func 41) #[] #[.pointer (some ⟨bx, 0, none⟩)]] w fun e w' =>
      e = .returned (.tuple #[]) ∧ ∃ ord : List Nat, (gm log ops).Order ord ∧ ord.length = ops.length ∧ Keeps (fun x => x = g) w w' ∧ ∀ i, ∀ h : i < ord.length, w'.cell? ⟨g, i, none⟩ = some (.int .i64 ord[i]) := by
  by_cases h0 : ops.length = 0
  · rw [h0]
    refine (sort_none w _ 0 _).mono ?_
    rintro e w' ⟨rfl, rfl⟩
    have hops : ops = [] := List.length_eq_zero_iff.1 h0
    subst hops
    exact ⟨rfl, [], ⟨.nil, .nil⟩, rfl, Keeps.refl _ _, fun i hi => by simp at hi⟩
  · obtain ⟨N, hN⟩ : ∃ N, ops.length = N + 1 := ⟨ops.length - 1, by omega⟩
    have hH : Go.Sort.Holds (encF (N := N)) w g 0 (List.finRange (N + 1)).toArray := fun j hj => by
      have hj' : j < N + 1 := by simpa using hj
      have hjl : j < (plL ops.length fun i => (i : Int)).length := by rw [plL_len, hN]; exact hj'
      rw [Nat.zero_add, hr.cell hjl, plL_at]
      refine ⟨?_, hr.frozen j⟩
      rw [getElem!_pos _ j hj]
      simp [encF]
    have hs := sort_any (cap := ops.length) hb hbx hS hG hN ops.length hN.symm h20 (List.finRange (N + 1)).toArray (by simp) hH
    refine hs.mono ?_
    rintro e w' ⟨rfl, hsr⟩
    rw [hN] at hsr ⊢
    exact ⟨rfl, hsr.order hN rfl⟩
end Go.Proofs.YthdcnknjjbdefaaGreatDoor.His

namespace Go.Proofs.YthdcnknjjbdefaaGreatDoor.His
open Go.RowKit Go.Bl
attribute [local go_sem ↓] Go.wp_at_zero Go.wp_at_succ

theorem setRow_alloc (w : World) (old cs : Array Value) (t : TypeId) : (w.alloc (.cells old t)).setRow w.heap.size cs = w.alloc (.cells cs t) := by
  unfold World.setRow World.alloc
  simp only [World.mk.injEq, and_true]
  apply Array.ext_getElem?
  intro k
  rw [Array.getElem?_modify, Array.getElem?_push, Array.getElem?_push]
  by_cases h : w.heap.size = k
  · subst h
    simp
  · rw [if_neg h]
    simp [Ne.symm h]
theorem hu36 : ∃ d, Tryz.prog.underlying 36 = some d ∧ d.isRow = true := ⟨_, Tryz.underlying36, rfl⟩
theorem hi36 (o : Hop) : (Tryz.prog.info? 36).map (·.size) = some (opc o).length := by kernel_rfl
theorem opc_one (w : World) {G : Nat → Prop} {o : Hop} (h : OpOk w G o) : (opc o).toArray.all (·.oneCell') = true := by
  obtain ⟨A, n, c, hb⟩ := h.bev
  obtain ⟨B, d, he, _, _⟩ := h.ev.shape
  simp [opc, hb, he, Value.oneCell']
/-- An op is read whole: out of a row; out of a box. -/
theorem load_elem {w : World} {F : Nat → Prop} {b o n c : Nat} {l : List Hop} (h : Sl w F 17 opc (.slice (some ⟨b, o, none⟩) n c) l) {i : Nat} (hi : i < l.length) : w.rangeAt b (o + i * 17) (opc l[i]) := by
  obtain ⟨b', o', he, _, _, hx⟩ := h.cell_ hi
  cases he
  exact fun j v hv => hx j v hv
theorem load_box {w : World} {g : Nat} {o : Hop} (h : w.heap[g]? = some (.cells (opc o).toArray 36 (0, 0))) : w.rangeAt g 0 (opc o) := fun j v hv => by
  rw [Nat.zero_add, cell_of_row w g j _ _ _ h]
  simpa using hv
theorem op_load {w : World} {ops : Array Oper} {rest : List Oper} {op : Oper} {a : Act} {Q : Exit → Act → World → Prop} (hgd : op.guard = none) (x : Operand) (ho : op.op = .load 36 x) (b o : Nat) (hx : a.eval x = .pointer (some ⟨b, o, none⟩)) (q : Hop) (hc : w.rangeAt b o (opc q))
    (h : wpList Tryz.prog ops Q rest (a.put op.dst (.agg (opc q).toArray)) w) : wpList Tryz.prog ops Q (op :: rest) a w := by
  obtain ⟨d, h1, h2⟩ := hu36
  exact wpList_load_mid hgd 36 x ho b o hx (opc q) d hc h1 h2 (hi36 _) h
theorem op_store {w : World} {ops : Array Oper} {rest : List Oper} {op : Oper} {a : Act} {Q : Exit → Act → World → Prop} (hgd : op.guard = none) (x y : Operand) (ho : op.op = .store 36 x y) (old : Array Value) (hx : a.eval x = .pointer (some ⟨w.heap.size, 0, none⟩)) (q : Hop) (hy : a.eval y = .agg (opc q).toArray) (hn : old.size = 17)
    (hd : op.dst = none) (h1 : (opc q).toArray.all (·.oneCell') = true) (h : wpList Tryz.prog ops Q rest a (w.alloc (.cells (opc q).toArray 36))) : wpList Tryz.prog ops Q (op :: rest) a (w.alloc (.cells old 36)) := by
  refine wpList_store_row hgd 36 x y ho w.heap.size (opc q).toArray hx hy 36 old (heap_alloc_new w _) (by kernel_rfl) (by rw [hn]; rfl) h1 ?_
  rw [setRow_alloc, hd]
  exact h
/-- What all answers. -/
def AllPost (w : World) (log : List Ent) (ops : List Hop) (e : Ending) (w' : World) : Prop :=
  ∃ ord v, (gm log ops).Order ord ∧ e = .returned (.tuple #[v, .int .i64 ((gm log ops).run ord (fun _ => -1)).2]) ∧ Below w.heap.size w w' ∧
    (if ((gm log ops).run ord (fun _ => -1)).2 = 0 then ∃ g, v = .slice (some ⟨g, 0, none⟩) ops.length ops.length ∧ w.heap.size ≤ g ∧ RowI w' g (plL ops.length ((gm log ops).run ord (fun _ => -1)).1) else v = .slice none 0 0)

set_option maxRecDepth 10000 in
set_option maxHeartbeats 8000000 in
theorem all_any (w : World) (hT : Tabs w) (vl : Value) (log : List Ent) (h : EntsOk w (fun b => b < w.heap.size) vl log) (hok : LogOk log) (hl : log.length ≤ 100) (vo : Value) (ops : List Hop) (hS : Sl w (fun b => b < w.heap.size) 17 opc vo ops) (ho : ∀ o ∈ ops, OpOk w (fun b => b < w.heap.size) o) (h20 : ops.length ≤ 20) :
    Calls Tryz.prog 29 #[vl, vo] w (AllPost w log ops) := by
  have hmx := @run_gmax Tryz.prog
  obtain ⟨A, c, rfl, hA1, hA2⟩ := hS.shape
  unfold maxLen at hA2
  have HT := Lib.hid hT
  have HE := Lib.hid h
  have HOK := Lib.hid hok
  have HS := Lib.hid hS
  have HO := Lib.hid ho
  obtain ⟨n, hn⟩ : ∃ n, ops.length = n := ⟨_, rfl⟩
  have HN := Lib.hid hn
  rw [hn] at hA1 h20 HS ⊢
  clear hT h hok hS ho hn
  go_enter Tryz.func29, Tryz.ntmps29
  have hBx := (Below.refl w.heap.size w).alloc (Nat.le_refl _) (.cells #[.slice A n c] 28)
  have hbx := heap_alloc_new w (.cells #[.slice A n c] 28)
  go_upto_region 1 with (fail)
  obtain ⟨bx, hbxe⟩ : ∃ b, w.heap.size = b := ⟨_, rfl⟩
  have HBX := Lib.hid hbxe
  rw [hbxe] at hbx ⊢
  generalize w.alloc (.cells #[.slice A n c] 28) = w1 at hBx hbx ⊢
  have HB1 := Lib.hid hBx
  have HX1 := Lib.hid hbx
  clear hBx hbx hbxe
  have hp := play_any w1 (HT.out.fresh HB1.out) vl log (by
    have h0 := HE.out.fresh HB1.out
    have hsz := HB1.out.size
    exact ⟨h0.1.mono (fun k hk _ => hk), fun a ha => ⟨(h0.2 a ha).1.mono (fun k hk _ => hk), (h0.2 a ha).2⟩⟩) HOK.out hl
  have HP := Lib.hid hp
  clear hp
  go_wp2_with fail
  refine HP.out.mono ?_
  rintro e w2 ⟨p, rfl, hP, hB2⟩
  have HPl := Lib.hid hP
  have HX2 := Lib.hid ((hB2.block bx (Array.getElem?_eq_some_iff.1 HX1.out).1).trans HX1.out)
  have HB2 := Lib.hid (HB1.out.trans (hB2.mono HB1.out.size))
  clear hP hB2 HP
  obtain ⟨w3, hrun3, hB3, hz3, hr3⟩ := make_ints w2 n (by omega)
  obtain ⟨w4, hrun4, hB4, hz4, hr4⟩ := make_ints w3 n (by omega)
  have hr3 := hr3.fresh hB4
  have HB4 := Lib.hid (HB2.out.trans ((hB3.trans (hB4.mono hB3.size)).mono HB2.out.size))
  have hx3 := (hB3.block bx (Array.getElem?_eq_some_iff.1 HX2.out).1).trans HX2.out
  have HX4 := Lib.hid ((hB4.block bx (Array.getElem?_eq_some_iff.1 hx3).1).trans hx3)
  have HB24 := Lib.hid (hB3.trans (hB4.mono hB3.size))
  have HG1 : Hid (w2.heap.size ≤ w2.heap.size) := Lib.hid (Nat.le_refl _)
  obtain ⟨g1, hg1⟩ : ∃ g, w2.heap.size = g := ⟨_, rfl⟩
  obtain ⟨g2, hg2⟩ : ∃ g, w3.heap.size = g := ⟨_, rfl⟩
  have hbg : bx < g1 ∧ g1 < g2 ∧ w.heap.size = bx := by
    have := (Array.getElem?_eq_some_iff.1 HX2.out).1
    have := HBX.out
    omega
  have HBG := Lib.hid hbg
  have HR4 := Lib.hid (And.intro hr3 hr4)
  have x2 := cell_of_row w2 bx 0 _ _ _ HX2.out
  have x3 := cell_of_row w3 bx 0 _ _ _ hx3
  have x4 := cell_of_row w4 bx 0 _ _ _ HX4.out
  have hgs : w2.heap.size = g1 ∧ w3.heap.size = g2 ∧ g1 < g2 := ⟨hg1, hg2, by omega⟩
  have HGS := Lib.hid hgs
  clear hgs HG1
  rw [hg1] at HR4 hrun3
  rw [hg2] at HR4 hrun4
  clear hB3 hB4 hz3 hz4 hr3 hr4 hx3 hg1 hg2 hbg
  go_wp2_with fail
  clear x2 x3 x4 hrun3 hrun4
  go_loopw [28] (fun i wr => ∃ k : Nat, k ≤ n ∧ i = .int .i64 k ∧ RowI wr g1 (fillI n k fun j => j) ∧ RowI wr g2 (fillI n k fun _ => -1) ∧ Keeps (fun x => x = g1 ∨ x = g2) w4 wr) (fun i _ => n - (RowKit.intOf i).toNat)
  case atStart => exact ⟨0, Nat.zero_le _, rfl, by rw [fillI_zero]; exact HR4.out.1, by rw [fillI_zero]; exact HR4.out.2, Keeps.refl _ _⟩
  case round =>
    obtain ⟨k, hk, rfl, hr1, hr2, hK⟩ := hrel
    have HR1 := Lib.hid hr1
    have HR2 := Lib.hid hr2
    have HK := Lib.hid hK
    clear hK
    by_cases hlt : k < n
    · obtain ⟨u1, y1⟩ : ∃ x, wr.cell? ⟨g1, k, none⟩ = some (.int .i64 x) := ⟨_, hr1.cell (k := k) (by rw [fillI_len]; exact hlt)⟩
      obtain ⟨u2', y2⟩ : ∃ x, wr.cell? ⟨g2, k, none⟩ = some (.int .i64 x) := ⟨_, hr2.cell (k := k) (by rw [fillI_len]; exact hlt)⟩
      have f1 := hr1.frozen k
      have f2 := hr2.frozen k
      have hk0 : (0 : Int) ≤ (k : Int) := by omega
      have hk1 : (k : Int) < (n : Int) := by omega
      have hne : ¬ g1 = g2 := by have := HBG.out; omega
      have hne' : ¬ g2 = g1 := by have := HBG.out; omega
      clear hr1 hr2
      go_wp2_with fail
      go_roundw
      case rel =>
        refine ⟨k + 1, hlt, by go_num, ?_, ?_, ?_⟩
        · have h := HR1.out.set k (k : Int)
          rw [fillI_set (n := n) (k := k) (fun j => (j : Int))] at h
          exact h.keep (one_set _ g2 k _) hne
        · have h := (HR2.out.keep (one_set _ g1 k (.int .i64 (k : Int))) hne').set k (-1)
          rw [fillI_set (n := n) (k := k) (fun _ => (-1 : Int))] at h
          exact h
        · exact (HK.out.andThen (one_set wr g1 k (.int .i64 (k : Int))) (fun _ _ h => .inl h)).andThen (one_set _ g2 k (.int .i64 (-1))) (fun _ _ h => .inr h)
      case measure => simp [RowKit.intOf]; omega
    · have hkn : k = n := by omega
      subst hkn
      rw [fillI_all] at hr1 hr2
      have h25 : Below w2.heap.size w2 wr := Go.Bl.Below.keep HB24.out HK.out HB24.out.size (fun x hx => by
        have := HGS.out
        rcases hx with rfl | rfl <;> omega)
      have H25 := Lib.hid h25
      have HR5 := Lib.hid hr2
      have hbx5 := (h25.block bx (Array.getElem?_eq_some_iff.1 HX2.out).1).trans HX2.out
      have x5 : wr.cell? ⟨bx, 0, none⟩ = some (.slice A k c) := cell_of_row wr bx 0 _ _ _ hbx5
      have hso := order_any wr log ops (by rw [HN.out]; exact h20) bx g1 (.slice A k c) (fun b => b < w.heap.size) x5 (by have := HBG.out; omega) ((HS.out.fresh HB2.out).below h25 (fun _ hb _ => hb)) (fun x hx => by have := HBG.out; omega) (by rw [HN.out]; exact hr1)
      rw [HN.out] at hso
      have HSO := Lib.hid hso
      clear hso hr1 hr2 h25 hbx5 HR1 HR2 HK HR4 HX4 HB24 HB4
      go_wp2_with fail
      refine HSO.out.mono ?_
      rintro e w5 ⟨rfl, ord, hord, hol, hK5, hcs⟩
      have hr5 := HR5.out.keep hK5 (fun e => by have := HBG.out; omega)
      have h25 := Go.Bl.Below.keep H25.out hK5 H25.out.size (fun x hx => by have := HGS.out; omega)
      have HORD := Lib.hid hord
      have HOL := Lib.hid hol
      have HCS := Lib.hid hcs
      have HR6 := Lib.hid hr5
      have HB26 := Lib.hid h25
      clear hord hol hcs hr5 h25 hK5 HR5 H25 x5 HSO
      go_wp2_with fail
      go_loopw [44] (fun i wq => ∃ (m : Nat) (P : Nat → Int), m ≤ k ∧ i = .int .i64 m ∧ (gm log ops).run (ord.drop m) P = (gm log ops).run ord (fun _ => -1) ∧ (∀ j, P j ≤ log.length) ∧ RowI wq g2 (plL k P) ∧ Keeps (fun x => x = g2) w5 wq) (fun i _ => k - (RowKit.intOf i).toNat)
      case atStart => exact ⟨0, _, Nat.zero_le _, rfl, rfl, fun _ => by omega, HR6.out, Keeps.refl _ _⟩
      case round =>
        rename World => wq
        obtain ⟨m, P, hm, rfl, hrun, hPt, hrq, hKq⟩ := hrel
        have HRUN := Lib.hid hrun
        have HPT := Lib.hid hPt
        have HRq := Lib.hid hrq
        have HKq := Lib.hid hKq
        have hBq := Go.Bl.Below.keep HB26.out hKq HB26.out.size (fun x hx => by have := HGS.out; omega)
        have HBq := Lib.hid hBq
        clear hrun hPt hrq hKq hBq
        by_cases hlt2 : m < k
        · have hmo : m < ord.length := by rw [HOL.out]; exact hlt2
          have hi0 : ord[m] < ops.length := (HORD.out.mem _).1 (List.getElem_mem hmo)
          have hdrop := List.drop_eq_getElem_cons hmo
          have xg := HCS.out m hmo
          obtain ⟨i0, hi0e⟩ : ∃ i, ord[m] = i := ⟨_, rfl⟩
          rw [hi0e] at hi0 hdrop xg
          have xg := (HKq.out.cell (a := ⟨g1, m, none⟩) (World.block_lt_of_cell? _ _ xg) (fun e => by have e : g1 = g2 := e; have := HBG.out; omega)).trans xg
          have HDROP := Lib.hid hdrop
          have x1 : wq.cell? ⟨bx, 0, none⟩ = some (.slice A k c) := cell_of_row wq bx 0 _ _ _ ((HBq.out.block bx (Array.getElem?_eq_some_iff.1 HX2.out).1).trans HX2.out)
          have hSq := (HS.out.fresh HB2.out).below HBq.out (fun _ hb _ => hb)
          obtain ⟨b0, o0, hAe, _, _, _⟩ := hSq.cell_ hi0
          cases hAe
          have hld := load_elem hSq hi0
          have hoo := HO.out _ (List.getElem_mem hi0)
          have hone := opc_one w hoo
          have hkd := hoo.kind
          have hoe : ops.getD i0 default = ops[i0] := getD_at hi0
          obtain ⟨o, ho⟩ : ∃ o, ops[i0] = o := ⟨_, rfl⟩
          rw [ho] at hld hoo hkd hoe hone
          have HLD := Lib.hid hld
          clear hld
          have HOE := Lib.hid hoe
          have HOO := Lib.hid hoo
          have HONE := Lib.hid hone
          have hi00 : (0 : Int) ≤ (i0 : Int) := by omega
          have hi01 : (i0 : Int) < (k : Int) := by have := HN.out; omega
          have hm0 : (0 : Int) ≤ (m : Int) := by omega
          have hm1 : (m : Int) < (k : Int) := by omega
          have hBo := (Below.refl wq.heap.size wq).alloc (Nat.le_refl _) (.cells (opc o).toArray 36)
          have hgo := heap_alloc_new wq (.cells (opc o).toArray 36)
          clear hdrop hSq hoe ho hi0e hoo hone
          go_upto_region 16 with (first | (refine op_load rfl (.tmp 50) rfl b0 (o0 + i0 * 17) rfl o HLD.out ?_) | (refine op_store rfl (.tmp 12) (.tmp 51) rfl _ rfl o rfl rfl rfl HONE.out ?_))
          obtain ⟨go, hgoe⟩ : ∃ g, wq.heap.size = g := ⟨_, rfl⟩
          have HGO := Lib.hid hgoe
          rw [hgoe] at hgo ⊢
          generalize wq.alloc (.cells (opc o).toArray 36) = w6 at hBo hgo ⊢
          have HB6 := Lib.hid hBo
          have HGO6 := Lib.hid hgo
          have HLD6 := Lib.hid (load_box hgo)
          have z0 : w6.cell? ⟨go, 0, none⟩ = some (.int .i64 o.kind) := cell_of_row w6 go 0 _ _ _ hgo
          clear hBo hgo hgoe x1 xg
          go_cut [59] (fun s wx => s = .bool false ∧ wx = w6)
          case first =>
            rcases hkd with hkd | hkd
            · have d1 : (o.kind != 1) = false := by simp [hkd]
              have HKD := Lib.hid hkd
              clear hkd
              go_wp2_with fail
              go_meet
              case rel => exact ⟨rfl, rfl⟩
            · have d1 : (o.kind != 1) = true := by simp [hkd]
              have d2 : (o.kind != 2) = false := by simp [hkd]
              have HKD := Lib.hid hkd
              clear hkd
              go_wp2_with fail
              go_meet
              case rel => exact ⟨rfl, rfl⟩
          case rest =>
            obtain ⟨rfl, rfl⟩ := hcut
            go_wp2_with (first | (refine op_load rfl (.tmp 12) rfl go 0 rfl o HLD6.out ?_))
            refine (counts_any _ o).mono ?_
            rintro e w7 ⟨rfl, hB7⟩
            have HG7 := Lib.hid ((hB7.block go (Array.getElem?_eq_some_iff.1 HGO6.out).1).trans HGO6.out)
            have HB7 := Lib.hid (HB6.out.trans (hB7.mono HB6.out.size))
            have HR7 := Lib.hid (HRq.out.fresh HB7.out)
            have HBw7 := Lib.hid (HBq.out.trans (HB7.out.mono HBq.out.size))
            clear hB7 z0
            have hcnt : (gm log ops).cnt i0 = countsB o := by rw [← HOE.out]; rfl
            cases hcb : countsB o
            · rw [hcb] at hcnt
              have HRUN2 : Hid ((gm log ops).run (ord.drop (m + 1)) P = (gm log ops).run ord (fun _ => -1)) := Lib.hid (by
                rw [← HRUN.out, HDROP.out, Gm.run_skip _ hcnt])
              clear hcnt hcb
              go_wp2_with fail
              go_roundw
              case rel => exact ⟨m + 1, P, hlt2, by go_num, HRUN2.out, HPT.out, HR7.out, HKq.out.fresh HB7.out⟩
              case measure => simp [RowKit.intOf]; omega
            · rw [hcb] at hcnt
              have HCNT1 := Lib.hid hcnt
              clear hcnt hcb
              have x7 : w7.cell? ⟨bx, 0, none⟩ = some (.slice (some ⟨b0, o0, none⟩) k c) := cell_of_row w7 bx 0 _ _ _ ((HBw7.out.block bx (Array.getElem?_eq_some_iff.1 HX2.out).1).trans HX2.out)
              go_wp2_with fail
              clear x7
              go_loopw [13, 67] (fun l i wt => ∃ j : Nat, j ≤ k ∧ i = .int .i64 j ∧ l = .int .i64 ((gm log ops).lst P i0 j) ∧ Below w7.heap.size w7 wt) (fun _ i _ => k - (RowKit.intOf i).toNat)
              case atStart => exact ⟨0, Nat.zero_le _, rfl, rfl, Below.refl _ _⟩
              case round =>
                rename World => wt
                obtain ⟨j, hj, rfl, rfl, hBt⟩ := hrel
                have HBt := Lib.hid hBt
                clear hBt
                obtain ⟨lj, hlj⟩ : ∃ l, (gm log ops).lst P i0 j = l := ⟨_, rfl⟩
                rw [hlj]
                have HLJ := Lib.hid hlj
                clear hlj
                by_cases hjk : j < k
                · have hjl : j < ops.length := by rw [HN.out]; exact hjk
                  have hlst : (gm log ops).lst P i0 (j + 1) = if countsB ops[j] = true ∧ ops[j].end_ < o.start then max lj (P j) else lj := by
                    rw [← HLJ.out]
                    conv => lhs; unfold Gm.lst
                    have e1 : (gm log ops).cnt j = countsB ops[j] := by show countsB (ops.getD j default) = _; rw [getD_at hjl]
                    have e2 : (gm log ops).en j = ops[j].end_ := by show (ops.getD j default).end_ = _; rw [getD_at hjl]
                    have e3 : (gm log ops).st i0 = o.start := by show (ops.getD i0 default).start = _; rw [HOE.out]
                    rw [e1, e2, e3]
                  have hSt := (HS.out.fresh HB2.out).below (HBw7.out.trans (HBt.out.mono HBw7.out.size)) (fun _ hb _ => hb)
                  have hld := load_elem hSt hjl
                  have hone := opc_one w (HO.out _ (List.getElem_mem hjl))
                  obtain ⟨a, ha⟩ : ∃ a, ops[j] = a := ⟨_, rfl⟩
                  rw [ha] at hlst hld hone
                  have HLST := Lib.hid hlst
                  have HLDA := Lib.hid hld
                  have HONA := Lib.hid hone
                  have hgot := (HBt.out.block go (Array.getElem?_eq_some_iff.1 HG7.out).1).trans HG7.out
                  have hBa := (Below.refl wt.heap.size wt).alloc (Nat.le_refl _) (.cells (opc a).toArray 36)
                  have hga := heap_alloc_new wt (.cells (opc a).toArray 36)
                  have hgoa := (hBa.block go (Array.getElem?_eq_some_iff.1 hgot).1).trans hgot
                  have hj0 : (0 : Int) ≤ (j : Int) := by omega
                  have hj1 : (j : Int) < (k : Int) := by omega
                  clear hlst hld hone hSt ha hgot
                  go_upto_region 23 with (first | (refine op_load rfl (.tmp 70) rfl b0 (o0 + j * 17) rfl a HLDA.out ?_) | (refine op_store rfl (.tmp 15) (.tmp 71) rfl _ rfl a rfl rfl rfl HONA.out ?_))
                  obtain ⟨ga, hgae⟩ : ∃ g, wt.heap.size = g := ⟨_, rfl⟩
                  rw [hgae] at hga ⊢
                  generalize wt.alloc (.cells (opc a).toArray 36) = w8 at hBa hga hgoa ⊢
                  have HBA := Lib.hid hBa
                  have HGA := Lib.hid hga
                  have HGOA := Lib.hid hgoa
                  have HLD8 := Lib.hid (load_box hga)
                  clear hBa hga hgoa hgae
                  go_wp2_with (first | (refine op_load rfl (.tmp 15) rfl ga 0 rfl a HLD8.out ?_))
                  refine (counts_any _ a).mono ?_
                  rintro e w9 ⟨rfl, hB9⟩
                  have HB9 := Lib.hid (HBt.out.trans ((HBA.out.trans (hB9.mono HBA.out.size)).mono HBt.out.size))
                  have z3 : w9.cell? ⟨ga, 3, none⟩ = some (.int .i64 a.end_) := cell_of_row w9 ga 3 _ _ _ ((hB9.block ga (Array.getElem?_eq_some_iff.1 HGA.out).1).trans HGA.out)
                  have z2 : w9.cell? ⟨go, 2, none⟩ = some (.int .i64 o.start) := cell_of_row w9 go 2 _ _ _ ((hB9.block go (Array.getElem?_eq_some_iff.1 HGOA.out).1).trans HGOA.out)
                  clear hB9
                  cases hca : countsB a
                  · have HL2 : Hid ((gm log ops).lst P i0 (j + 1) = lj) := Lib.hid (by rw [HLST.out, hca, if_neg (by simp)])
                    clear hca
                    go_wp2_with fail
                    go_roundw
                    case rel => exact ⟨j + 1, hjk, by go_num, by rw [HL2.out], HB9.out⟩
                    case measure => simp [RowKit.intOf]; omega
                  · by_cases hse : a.end_ < o.start
                    · have d3 : decide (a.end_ < o.start) = true := decide_eq_true hse
                      have HL2 : Hid ((gm log ops).lst P i0 (j + 1) = max lj (P j)) := Lib.hid (by rw [HLST.out, hca, if_pos ⟨rfl, hse⟩])
                      have y2 := ((HR7.out.fresh HB9.out).cell (k := j) (by rw [plL_len]; exact hjk))
                      rw [plL_at] at y2
                      clear hca hse
                      go_wp2_with fail
                      go_roundw
                      case rel => exact ⟨j + 1, hjk, by go_num, by rw [HL2.out, gmax_def], HB9.out⟩
                      case measure => simp [RowKit.intOf]; omega
                    · have d3 : decide (a.end_ < o.start) = false := decide_eq_false hse
                      have HL2 : Hid ((gm log ops).lst P i0 (j + 1) = lj) := Lib.hid (by rw [HLST.out, hca, if_neg (by simp [hse])])
                      clear hca hse
                      go_wp2_with fail
                      go_roundw
                      case rel => exact ⟨j + 1, hjk, by go_num, by rw [HL2.out], HB9.out⟩
                      case measure => simp [RowKit.intOf]; omega
                · have hjk2 : j = k := by omega
                  subst hjk2
                  have hl0 := Gm.lst_nonneg (gm log ops) P i0 j
                  have hl1 := Gm.lst_top (gm log ops) (b := (log.length : Int)) (by omega) HPT.out i0 j
                  rw [HLJ.out] at hl0 hl1
                  have hwt := HBw7.out.trans (HBt.out.mono HBw7.out.size)
                  have hpl := place_any wt p log (HPl.out.fresh hwt) HOK.out (by omega) o (fun b => b < w.heap.size) (HOO.out.fresh (HB2.out.trans (hwt.mono HB2.out.size))) lj (by omega)
                  obtain ⟨v, hv⟩ : ∃ v, placeS log o lj = v := ⟨_, rfl⟩
                  rw [hv] at hpl
                  have hvl := placeS_len log o lj
                  rw [hv] at hvl
                  have hpe : (gm log ops).pl i0 ((gm log ops).lst P i0 (gm log ops).n) = v := by
                    rw [show (gm log ops).n = j from HN.out, HLJ.out, ← hv, ← HOE.out]; rfl
                  have HPE := Lib.hid hpe
                  have HPLC := Lib.hid hpl
                  have HLDT := Lib.hid (load_box ((HBt.out.block go (Array.getElem?_eq_some_iff.1 HG7.out).1).trans HG7.out))
                  have HWT := Lib.hid hwt
                  clear hpl hv hpe hwt hl0 hl1
                  go_wp2_with (first | (refine op_load rfl (.tmp 12) rfl go 0 rfl o HLDT.out ?_))
                  refine HPLC.out.mono ?_
                  rintro e w10 ⟨rfl, hB10⟩
                  have HB10 := Lib.hid (HB7.out.trans ((HBt.out.trans (hB10.mono HBt.out.size)).mono HB7.out.size))
                  have hr10 := HRq.out.fresh HB10.out
                  have HR10 := Lib.hid hr10
                  have y2 := hr10.cell (k := i0) (by rw [plL_len]; omega)
                  have f2 := hr10.frozen i0
                  rw [plL_at] at y2
                  clear hr10 hB10
                  have hrs := HR10.out.set i0 v
                  rw [plL_set] at hrs
                  have hk11 := one_set w10 g2 i0 (.int .i64 v)
                  have HK11 := Lib.hid ((HKq.out.fresh HB10.out).trans hk11)
                  have HR11 := Lib.hid hrs
                  have x11a := hrs.cell (k := i0) (by rw [plL_len]; omega)
                  rw [plL_at] at x11a
                  have x11 : (w10.setCell ⟨g2, i0, none⟩ (.int .i64 v)).cell? ⟨g2, i0, none⟩ = some (.int .i64 v) := by
                    rw [x11a]; simp [upd]
                  clear hrs hk11 x11a
                  by_cases hneg : v < 0
                  · have d4 : decide (v < 0) = true := decide_eq_true hneg
                    have HRUN2 : Hid ((gm log ops).run ord (fun _ => -1) = (P, i0 + 1)) := Lib.hid (by
                      rw [← HRUN.out, HDROP.out, Gm.run_no _ HCNT1.out (by rw [HPE.out]; exact hneg)])
                    have HB12 := Lib.hid (HB26.out.trans ((HK11.out.below (B := w2.heap.size) HB26.out.size (fun x hx => by have := HGS.out; omega))))
                    go_wp2_with fail
                    go_ret2
                    refine ⟨ord, .slice none 0 0, HORD.out, by rw [HRUN2.out]; exact congrArg (fun z => Ending.returned (.tuple #[.slice none 0 0, .int .i64 z])) (by omega), HB2.out.trans (HB12.out.mono HB2.out.size), ?_⟩
                    rw [HRUN2.out, if_neg (by show ¬ i0 + 1 = 0; omega)]
                  · have d4 : decide (v < 0) = false := decide_eq_false hneg
                    have HRUN2 : Hid ((gm log ops).run (ord.drop (m + 1)) (upd P i0 v) = (gm log ops).run ord (fun _ => -1)) := Lib.hid (by
                      rw [← HRUN.out, HDROP.out, Gm.run_go _ HCNT1.out (by rw [HPE.out]; exact hneg), HPE.out])
                    have HPT2 : Hid (∀ j, upd P i0 v j ≤ log.length) := Lib.hid fun j => by
                      unfold upd
                      split
                      · omega
                      · exact HPT.out j
                    clear hvl
                    go_wp2_with fail
                    go_roundw
                    case rel => exact ⟨m + 1, _, hlt2, by go_num, HRUN2.out, HPT2.out, HR11.out, HK11.out⟩
                    case measure => simp [RowKit.intOf]; omega
        · have hmk : m = k := by omega
          subst hmk
          have hrun := HRUN.out
          rw [List.drop_of_length_le (by rw [HOL.out]; exact Nat.le_refl _)] at hrun
          have hrun : (P, 0) = (gm log ops).run ord (fun _ => -1) := hrun
          have HRUN2 := Lib.hid hrun
          clear hrun
          go_wp2_with fail
          go_ret2
          refine ⟨ord, .slice (some ⟨g2, 0, none⟩) m m, HORD.out, by rw [← HRUN2.out]; rfl, HB2.out.trans (HBq.out.mono HB2.out.size), ?_⟩
          rw [← HRUN2.out, if_pos rfl, HN.out]
          exact ⟨g2, rfl, by have := HBG.out; omega, HRq.out⟩
end Go.Proofs.YthdcnknjjbdefaaGreatDoor.His
