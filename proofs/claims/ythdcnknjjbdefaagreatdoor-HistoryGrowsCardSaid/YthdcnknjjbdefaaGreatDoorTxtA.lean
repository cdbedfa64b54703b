/- text: Name. Under the tables that utf8 lays. -/
import Derived.Test.YthdcnknjjbdefaaGreatDoorLayU
import Derived.Test.YthdcnknjjbdefaaGreatDoorBlA
import Derived.Lib.OthersKept
import Derived.Lib.RuneCountTail
import Derived.Lib.RuneCount
import Derived.Laws.RangeAny
import Derived.Deep.RegionHeld3
import Derived.Deep.DrawnRows
namespace Go.Proofs.YthdcnknjjbdefaaGreatDoor
open Go.RowKit Go.Bl Go.Shelf
attribute [local go_sem ↓] Go.wp_at_zero Go.wp_at_succ

/-- Is a rune of names? -/
def namedB (r : Nat) : Bool := (decide (97 ≤ r) && decide (r ≤ 122)) || (decide (65 ≤ r) && decide (r ≤ 90)) || (decide (48 ≤ r) && decide (r ≤ 57)) || r == 45 || r == 95 || r == 46 || decide (160 ≤ r)
set_option maxHeartbeats 1000000 in
theorem named_any (w : World) (r : Nat) : Calls Tryz.prog 92 #[.int .i32 r] w fun e w' => e = .returned (.bool (namedB r)) ∧ w = w' := by
  have hc : r < 45 ∨ r = 45 ∨ r = 46 ∨ r = 47 ∨ (48 ≤ r ∧ r ≤ 57) ∨ (58 ≤ r ∧ r ≤ 64) ∨ (65 ≤ r ∧ r ≤ 90) ∨ (91 ≤ r ∧ r ≤ 94) ∨ r = 95 ∨ r = 96 ∨ (97 ≤ r ∧ r ≤ 122) ∨ (123 ≤ r ∧ r ≤ 159) ∨ 160 ≤ r := by omega
  rcases hc with h | h | h | h | h | h | h | h | h | h | h | h | h
  ·
    have d1 : decide ((97 : Int) ≤ (r : Int)) = false := by simp; omega
    have d2 : decide ((r : Int) ≤ 122) = true := by simp; omega
    have d3 : decide ((65 : Int) ≤ (r : Int)) = false := by simp; omega
    have d4 : decide ((r : Int) ≤ 90) = true := by simp; omega
    have d5 : decide ((48 : Int) ≤ (r : Int)) = false := by simp; omega
    have d6 : decide ((r : Int) ≤ 57) = true := by simp; omega
    have d7 : ((r : Int) == 45) = false := by simp; omega
    have d8 : ((r : Int) == 95) = false := by simp; omega
    have d9 : ((r : Int) == 46) = false := by simp; omega
    have d0 : decide ((160 : Int) ≤ (r : Int)) = false := by simp; omega
    have hz : namedB r = false := by unfold namedB; simp; omega
    rw [hz]
    clear hz h
    go_enter Tryz.func92, Tryz.ntmps92
    go_wp2
    go_ret
    exact ⟨rfl, rfl⟩
  ·
    have d1 : decide ((97 : Int) ≤ (r : Int)) = false := by simp; omega
    have d2 : decide ((r : Int) ≤ 122) = true := by simp; omega
    have d3 : decide ((65 : Int) ≤ (r : Int)) = false := by simp; omega
    have d4 : decide ((r : Int) ≤ 90) = true := by simp; omega
    have d5 : decide ((48 : Int) ≤ (r : Int)) = false := by simp; omega
    have d6 : decide ((r : Int) ≤ 57) = true := by simp; omega
    have d7 : ((r : Int) == 45) = true := by simp; omega
    have d8 : ((r : Int) == 95) = false := by simp; omega
    have d9 : ((r : Int) == 46) = false := by simp; omega
    have d0 : decide ((160 : Int) ≤ (r : Int)) = false := by simp; omega
    have hz : namedB r = true := by unfold namedB; simp; omega
    rw [hz]
    clear hz h
    go_enter Tryz.func92, Tryz.ntmps92
    go_wp2
    go_ret
    exact ⟨rfl, rfl⟩
  ·
    have d1 : decide ((97 : Int) ≤ (r : Int)) = false := by simp; omega
    have d2 : decide ((r : Int) ≤ 122) = true := by simp; omega
    have d3 : decide ((65 : Int) ≤ (r : Int)) = false := by simp; omega
    have d4 : decide ((r : Int) ≤ 90) = true := by simp; omega
    have d5 : decide ((48 : Int) ≤ (r : Int)) = false := by simp; omega
    have d6 : decide ((r : Int) ≤ 57) = true := by simp; omega
    have d7 : ((r : Int) == 45) = false := by simp; omega
    have d8 : ((r : Int) == 95) = false := by simp; omega
    have d9 : ((r : Int) == 46) = true := by simp; omega
    have d0 : decide ((160 : Int) ≤ (r : Int)) = false := by simp; omega
    have hz : namedB r = true := by unfold namedB; simp; omega
    rw [hz]
    clear hz h
    go_enter Tryz.func92, Tryz.ntmps92
    go_wp2
    go_ret
    exact ⟨rfl, rfl⟩
  ·
    have d1 : decide ((97 : Int) ≤ (r : Int)) = false := by simp; omega
    have d2 : decide ((r : Int) ≤ 122) = true := by simp; omega
    have d3 : decide ((65 : Int) ≤ (r : Int)) = false := by simp; omega
    have d4 : decide ((r : Int) ≤ 90) = true := by simp; omega
    have d5 : decide ((48 : Int) ≤ (r : Int)) = false := by simp; omega
    have d6 : decide ((r : Int) ≤ 57) = true := by simp; omega
    have d7 : ((r : Int) == 45) = false := by simp; omega
    have d8 : ((r : Int) == 95) = false := by simp; omega
    have d9 : ((r : Int) == 46) = false := by simp; omega
    have d0 : decide ((160 : Int) ≤ (r : Int)) = false := by simp; omega
    have hz : namedB r = false := by unfold namedB; simp; omega
    rw [hz]
    clear hz h
    go_enter Tryz.func92, Tryz.ntmps92
    go_wp2
    go_ret
    exact ⟨rfl, rfl⟩
  ·
    have d1 : decide ((97 : Int) ≤ (r : Int)) = false := by simp; omega
    have d2 : decide ((r : Int) ≤ 122) = true := by simp; omega
    have d3 : decide ((65 : Int) ≤ (r : Int)) = false := by simp; omega
    have d4 : decide ((r : Int) ≤ 90) = true := by simp; omega
    have d5 : decide ((48 : Int) ≤ (r : Int)) = true := by simp; omega
    have d6 : decide ((r : Int) ≤ 57) = true := by simp; omega
    have d7 : ((r : Int) == 45) = false := by simp; omega
    have d8 : ((r : Int) == 95) = false := by simp; omega
    have d9 : ((r : Int) == 46) = false := by simp; omega
    have d0 : decide ((160 : Int) ≤ (r : Int)) = false := by simp; omega
    have hz : namedB r = true := by unfold namedB; simp; omega
    rw [hz]
    clear hz h
    go_enter Tryz.func92, Tryz.ntmps92
    go_wp2
    go_ret
    exact ⟨rfl, rfl⟩
  ·
    have d1 : decide ((97 : Int) ≤ (r : Int)) = false := by simp; omega
    have d2 : decide ((r : Int) ≤ 122) = true := by simp; omega
    have d3 : decide ((65 : Int) ≤ (r : Int)) = false := by simp; omega
    have d4 : decide ((r : Int) ≤ 90) = true := by simp; omega
    have d5 : decide ((48 : Int) ≤ (r : Int)) = true := by simp; omega
    have d6 : decide ((r : Int) ≤ 57) = false := by simp; omega
    have d7 : ((r : Int) == 45) = false := by simp; omega
    have d8 : ((r : Int) == 95) = false := by simp; omega
    have d9 : ((r : Int) == 46) = false := by simp; omega
    have d0 : decide ((160 : Int) ≤ (r : Int)) = false := by simp; omega
    have hz : namedB r = false := by unfold namedB; simp; omega
    rw [hz]
    clear hz h
    go_enter Tryz.func92, Tryz.ntmps92
    go_wp2
    go_ret
    exact ⟨rfl, rfl⟩
  ·
    have d1 : decide ((97 : Int) ≤ (r : Int)) = false := by simp; omega
    have d2 : decide ((r : Int) ≤ 122) = true := by simp; omega
    have d3 : decide ((65 : Int) ≤ (r : Int)) = true := by simp; omega
    have d4 : decide ((r : Int) ≤ 90) = true := by simp; omega
    have d5 : decide ((48 : Int) ≤ (r : Int)) = true := by simp; omega
    have d6 : decide ((r : Int) ≤ 57) = false := by simp; omega
    have d7 : ((r : Int) == 45) = false := by simp; omega
    have d8 : ((r : Int) == 95) = false := by simp; omega
    have d9 : ((r : Int) == 46) = false := by simp; omega
    have d0 : decide ((160 : Int) ≤ (r : Int)) = false := by simp; omega
    have hz : namedB r = true := by unfold namedB; simp; omega
    rw [hz]
    clear hz h
    go_enter Tryz.func92, Tryz.ntmps92
    go_wp2
    go_ret
    exact ⟨rfl, rfl⟩
  ·
    have d1 : decide ((97 : Int) ≤ (r : Int)) = false := by simp; omega
    have d2 : decide ((r : Int) ≤ 122) = true := by simp; omega
    have d3 : decide ((65 : Int) ≤ (r : Int)) = true := by simp; omega
    have d4 : decide ((r : Int) ≤ 90) = false := by simp; omega
    have d5 : decide ((48 : Int) ≤ (r : Int)) = true := by simp; omega
    have d6 : decide ((r : Int) ≤ 57) = false := by simp; omega
    have d7 : ((r : Int) == 45) = false := by simp; omega
    have d8 : ((r : Int) == 95) = false := by simp; omega
    have d9 : ((r : Int) == 46) = false := by simp; omega
    have d0 : decide ((160 : Int) ≤ (r : Int)) = false := by simp; omega
    have hz : namedB r = false := by unfold namedB; simp; omega
    rw [hz]
    clear hz h
    go_enter Tryz.func92, Tryz.ntmps92
    go_wp2
    go_ret
    exact ⟨rfl, rfl⟩
  ·
    have d1 : decide ((97 : Int) ≤ (r : Int)) = false := by simp; omega
    have d2 : decide ((r : Int) ≤ 122) = true := by simp; omega
    have d3 : decide ((65 : Int) ≤ (r : Int)) = true := by simp; omega
    have d4 : decide ((r : Int) ≤ 90) = false := by simp; omega
    have d5 : decide ((48 : Int) ≤ (r : Int)) = true := by simp; omega
    have d6 : decide ((r : Int) ≤ 57) = false := by simp; omega
    have d7 : ((r : Int) == 45) = false := by simp; omega
    have d8 : ((r : Int) == 95) = true := by simp; omega
    have d9 : ((r : Int) == 46) = false := by simp; omega
    have d0 : decide ((160 : Int) ≤ (r : Int)) = false := by simp; omega
    have hz : namedB r = true := by unfold namedB; simp; omega
    rw [hz]
    clear hz h
    go_enter Tryz.func92, Tryz.ntmps92
    go_wp2
    go_ret
    exact ⟨rfl, rfl⟩
  ·
    have d1 : decide ((97 : Int) ≤ (r : Int)) = false := by simp; omega
    have d2 : decide ((r : Int) ≤ 122) = true := by simp; omega
    have d3 : decide ((65 : Int) ≤ (r : Int)) = true := by simp; omega
    have d4 : decide ((r : Int) ≤ 90) = false := by simp; omega
    have d5 : decide ((48 : Int) ≤ (r : Int)) = true := by simp; omega
    have d6 : decide ((r : Int) ≤ 57) = false := by simp; omega
    have d7 : ((r : Int) == 45) = false := by simp; omega
    have d8 : ((r : Int) == 95) = false := by simp; omega
    have d9 : ((r : Int) == 46) = false := by simp; omega
    have d0 : decide ((160 : Int) ≤ (r : Int)) = false := by simp; omega
    have hz : namedB r = false := by unfold namedB; simp; omega
    rw [hz]
    clear hz h
    go_enter Tryz.func92, Tryz.ntmps92
    go_wp2
    go_ret
    exact ⟨rfl, rfl⟩
  ·
    have d1 : decide ((97 : Int) ≤ (r : Int)) = true := by simp; omega
    have d2 : decide ((r : Int) ≤ 122) = true := by simp; omega
    have d3 : decide ((65 : Int) ≤ (r : Int)) = true := by simp; omega
    have d4 : decide ((r : Int) ≤ 90) = false := by simp; omega
    have d5 : decide ((48 : Int) ≤ (r : Int)) = true := by simp; omega
    have d6 : decide ((r : Int) ≤ 57) = false := by simp; omega
    have d7 : ((r : Int) == 45) = false := by simp; omega
    have d8 : ((r : Int) == 95) = false := by simp; omega
    have d9 : ((r : Int) == 46) = false := by simp; omega
    have d0 : decide ((160 : Int) ≤ (r : Int)) = false := by simp; omega
    have hz : namedB r = true := by unfold namedB; simp; omega
    rw [hz]
    clear hz h
    go_enter Tryz.func92, Tryz.ntmps92
    go_wp2
    go_ret
    exact ⟨rfl, rfl⟩
  ·
    have d1 : decide ((97 : Int) ≤ (r : Int)) = true := by simp; omega
    have d2 : decide ((r : Int) ≤ 122) = false := by simp; omega
    have d3 : decide ((65 : Int) ≤ (r : Int)) = true := by simp; omega
    have d4 : decide ((r : Int) ≤ 90) = false := by simp; omega
    have d5 : decide ((48 : Int) ≤ (r : Int)) = true := by simp; omega
    have d6 : decide ((r : Int) ≤ 57) = false := by simp; omega
    have d7 : ((r : Int) == 45) = false := by simp; omega
    have d8 : ((r : Int) == 95) = false := by simp; omega
    have d9 : ((r : Int) == 46) = false := by simp; omega
    have d0 : decide ((160 : Int) ≤ (r : Int)) = false := by simp; omega
    have hz : namedB r = false := by unfold namedB; simp; omega
    rw [hz]
    clear hz h
    go_enter Tryz.func92, Tryz.ntmps92
    go_wp2
    go_ret
    exact ⟨rfl, rfl⟩
  ·
    have d1 : decide ((97 : Int) ≤ (r : Int)) = true := by simp; omega
    have d2 : decide ((r : Int) ≤ 122) = false := by simp; omega
    have d3 : decide ((65 : Int) ≤ (r : Int)) = true := by simp; omega
    have d4 : decide ((r : Int) ≤ 90) = false := by simp; omega
    have d5 : decide ((48 : Int) ≤ (r : Int)) = true := by simp; omega
    have d6 : decide ((r : Int) ≤ 57) = false := by simp; omega
    have d7 : ((r : Int) == 45) = false := by simp; omega
    have d8 : ((r : Int) == 95) = false := by simp; omega
    have d9 : ((r : Int) == 46) = false := by simp; omega
    have d0 : decide ((160 : Int) ≤ (r : Int)) = true := by simp; omega
    have hz : namedB r = true := by unfold namedB; simp; omega
    rw [hz]
    clear hz h
    go_enter Tryz.func92, Tryz.ntmps92
    go_wp2
    go_ret
    exact ⟨rfl, rfl⟩

def Tabs (w : World) : Prop := Lib.Utf8Tabs (Tryz.lays197_ren.g 3) (Tryz.lays197_ren.g 4) w
theorem Tabs.keep {w w' : World} {G : Nat → Prop} (h : Tabs w) (hk : Keeps G w w') (hG : ∀ k, G k → 2 ≤ k) (h2 : 2 ≤ w.heap.size) : Tabs w' := by
  obtain ⟨h1, h3⟩ := h
  have n0 : ¬ G (Tryz.lays197_ren.g 3) := fun e => absurd (hG _ e) (by decide)
  have n1 : ¬ G (Tryz.lays197_ren.g 4) := fun e => absurd (hG _ e) (by decide)
  have l0 : Tryz.lays197_ren.g 3 < w.heap.size := Nat.lt_of_lt_of_le (show Tryz.lays197_ren.g 3 < 2 by decide) h2
  have l1 : Tryz.lays197_ren.g 4 < w.heap.size := Nat.lt_of_lt_of_le (show Tryz.lays197_ren.g 4 < 2 by decide) h2
  exact ⟨fun c hc => (hk.cell (a := ⟨_, c, none⟩) l0 n0).trans (h1 c hc), fun i hi => ⟨(hk.cell (a := ⟨_, _, none⟩) l1 n1).trans (h3 i hi).1, (hk.cell (a := ⟨_, _, none⟩) l1 n1).trans (h3 i hi).2⟩⟩
theorem Tabs.lt {w : World} (h : Tabs w) : 2 ≤ w.heap.size := World.block_lt_of_cell? _ _ (h.2 0 (by decide)).1
theorem Tabs.below {w w' : World} {B : Nat} (h : Tabs w) (hB : Below B w w') (h2 : 2 ≤ B) : Tabs w' := h.keep (Keeps.of_below hB) (fun _ hk => Nat.le_trans h2 hk) h.lt
theorem Tabs.fresh {w w' : World} (h : Tabs w) (hB : Below w.heap.size w w') : Tabs w' := h.below hB h.lt

/-- Does no rune stand at a place? -/
def wrongB (s : ByteArray) (i : Nat) : Bool := decide ((Utf8.decode s i).1 = 65533) && decide ((Utf8.decode s i).2 = 1)
set_option maxHeartbeats 1000000 in
theorem wrong_any (w : World) (hT : Tabs w) (s : ByteArray) (i : Nat) (hi : i < s.size) (_hs : s.size ≤ 1000000000000000) :
    Calls Tryz.prog 93 #[.string s, .int .i64 i, .int .i32 ((Utf8.decode s i).1 : Nat)] w fun e w' => e = .returned (.bool (wrongB s i)) ∧ Below w.heap.size w w' := by
  have hdec := fun wz (hz : Tabs wz) => Any.utf8_DecodeRuneInString Tryz.lays197 (s.extract i s.size) wz hz
  have hgo : Lib.decodeGo (s.extract i s.size) = Utf8.decode s i := by
    unfold Lib.decodeGo
    rw [if_neg (by simp; omega)]
    exact Lib.tail_decode s i 0
  rw [hgo] at hdec
  unfold wrongB
  generalize Utf8.decode s i = q at hdec ⊢
  obtain ⟨r, n⟩ := q
  have HD := Lib.hid hdec
  clear hdec hgo
  by_cases hr : r = 65533
  · subst hr
    go_enter Tryz.func93, Tryz.ntmps93
    go_wp2_with fail
    refine (HD.out w hT).mono ?_
    rintro e w1 ⟨rfl, hB⟩
    by_cases hn : n = 1
    · have d2 : ((n : Int) == 1) = true := by simp; omega
      go_wp2_with fail
      go_ret
      exact ⟨by simp [hn], hB⟩
    · have d2 : ((n : Int) == 1) = false := by simp; omega
      go_wp2_with fail
      go_ret
      exact ⟨by simp [hn], hB⟩
  · have d1 : ((r : Int) != 65533) = true := by simp; omega
    rw [decide_eq_false hr]
    go_enter Tryz.func93, Tryz.ntmps93
    go_wp2
    go_ret
    exact ⟨rfl, Below.refl _ _⟩

/-- Is a text a name? From place pos on, where n runes stand ahead. -/
def nameFrom (s : ByteArray) : Nat → Nat → Nat → Bool
  | 0, _, n => decide (0 < n)
  | f + 1, pos, n =>
    if pos < s.size then (if 32 < n + 1 then false else if namedB (Utf8.decode s pos).1 = false then false else if wrongB s pos = true then false else nameFrom s f (pos + (Utf8.decode s pos).2) (n + 1))
    else decide (0 < n)
def nameB (s : ByteArray) : Bool := nameFrom s s.size 0 0
theorem nameFrom_end {s : ByteArray} {pos : Nat} (h : ¬ pos < s.size) (f n : Nat) : nameFrom s f pos n = decide (0 < n) := by
  cases f
  · rfl
  · unfold nameFrom
    rw [if_neg h]

set_option maxHeartbeats 2000000 in
theorem name_any (w : World) (hT : Tabs w) (s : ByteArray) (hs : s.size ≤ 1000000000000000) :
    Calls Tryz.prog 84 #[.string s] w fun e w' => e = .returned (.bool (nameB s)) ∧ Below w.heap.size w w' := by
  have h2 := hT.lt
  have HT := Lib.hid hT
  clear hT
  go_enter Tryz.func84, Tryz.ntmps84
  go_wp2_with fail
  go_loopw [3, 4, 5] (fun n _ _ wr => ∃ pos m f : Nat, n = .int .i64 m ∧ wr.heap[w.heap.size]? = some (.stringIter s pos) ∧ Below w.heap.size w wr ∧ s.size ≤ pos + f ∧ m ≤ 32 ∧ nameFrom s f pos m = nameB s) (fun _ _ _ wr => s.size - wr.iterPos w.heap.size)
  case atStart => exact ⟨0, 0, s.size, rfl, World.iter_heap w s 0, (Below.refl _ w).alloc (Nat.le_refl _) _, by omega, by omega, rfl⟩
  case round =>
    obtain ⟨pos, m, f, rfl, hit, hB, hf, hm, hN⟩ := hrel
    have hsz := (Array.getElem?_eq_some_iff.1 hit).1
    by_cases hp : pos < s.size
    · have hnx := fun ty => Lib.run_next_any_at (P := Tryz.prog) wr w.heap.size s pos ty hit hp
      have hi1 := Lib.iterAt_heap wr w.heap.size s pos (pos + (Utf8.decode s pos).2) hit
      have hB1 := Lib.below_iterAt hB (Nat.le_refl _) s (pos + (Utf8.decode s pos).2)
      have hz1 := Lib.iterAt_size wr w.heap.size s (pos + (Utf8.decode s pos).2)
      have hpw := Lib.decode_width_pos s pos hp
      have hp0 : wr.iterPos w.heap.size = pos := by unfold World.iterPos; rw [hit]
      obtain ⟨f, rfl⟩ : ∃ f', f = f' + 1 := ⟨f - 1, by omega⟩
      unfold nameFrom at hN
      rw [if_pos hp] at hN
      have hw := fun wz (hz : Tabs wz) => wrong_any wz hz s pos hp hs
      have HW := Lib.hid hw
      have HI1 := Lib.hid hi1
      have HB1 := Lib.hid hB1
      have HN := Lib.hid hN
      have HP0 := Lib.hid hp0
      clear hw hi1 hB1 hN hit hp0
      generalize wr.iterAt w.heap.size s (pos + (Utf8.decode s pos).2) = w1 at HI1 HB1 hz1 hnx
      have HZ1 := Lib.hid hz1
      clear hz1
      by_cases h32 : 32 < m + 1
      · have d1 : decide ((32 : Int) < (m : Int) + 1) = true := by simp; omega
        go_wp2_with fail
        go_ret
        have := HN.out
        rw [if_pos h32] at this
        exact ⟨by rw [← this]; rfl, HB1.out⟩
      · have d1 : decide ((32 : Int) < (m : Int) + 1) = false := by simp; omega
        go_wp2_with fail
        refine (named_any w1 _).mono ?_
        rintro e w2 ⟨rfl, rfl⟩
        cases hnm : namedB (Utf8.decode s pos).1
        · go_wp2_with fail
          go_ret
          have := HN.out
          rw [if_neg h32, if_pos hnm] at this
          exact ⟨by rw [← this]; rfl, HB1.out⟩
        · go_wp2_with fail
          refine (HW.out w1 (HT.out.fresh HB1.out)).mono ?_
          rintro e w2 ⟨rfl, hB2⟩
          have HB2 := Lib.hid hB2
          clear hB2
          cases hwr : wrongB s pos
          · go_wp2_with fail
            have hh := (Keeps.of_fresh HB2.out (fun _ => False)).grownTo HI1.out id
            go_roundw
            case rel =>
              refine ⟨pos + (Utf8.decode s pos).2, m + 1, f, by go_num, hh, HB1.out.trans (HB2.out.mono HB1.out.size), by omega, by omega, ?_⟩
              have := HN.out
              rw [if_neg h32, if_neg (by rw [hnm]; decide), if_neg (by rw [hwr]; decide)] at this
              exact this
            case measure =>
              rw [HP0.out]
              unfold World.iterPos
              rw [hh]
              show s.size - (pos + (Utf8.decode s pos).2) < _
              omega
          · go_wp2_with fail
            go_ret
            have := HN.out
            rw [if_neg h32, if_neg (by rw [hnm]; decide), if_pos hwr] at this
            exact ⟨by rw [← this]; rfl, HB1.out.trans (HB2.out.mono HB1.out.size)⟩
    · have hnx := fun ty => Lib.run_next_end_at (P := Tryz.prog) wr w.heap.size s pos ty hit hp
      have hend := nameFrom_end hp f m
      rw [hN] at hend
      by_cases hm0 : 0 < m
      · have d1 : decide ((0 : Int) < (m : Int)) = true := by simp; omega
        rw [decide_eq_true hm0] at hend
        go_wp2_with fail
        go_ret
        exact ⟨by rw [hend]; rfl, hB⟩
      · have d1 : decide ((0 : Int) < (m : Int)) = false := by simp; omega
        rw [decide_eq_false hm0] at hend
        go_wp2_with fail
        go_ret
        exact ⟨by rw [hend]; rfl, hB⟩
end Go.Proofs.YthdcnknjjbdefaaGreatDoor
