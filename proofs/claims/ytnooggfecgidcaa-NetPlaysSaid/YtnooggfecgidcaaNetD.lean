/- NetTurns: what the statement's function does: it answers true. -/
import Derived.Test.YtnooggfecgidcaaNetC
namespace Go.Proofs.Ytnooggfecgidcaa
open Go.RowKit Go.Bl

theorem turnB_back (t : ByteArray) (k : Nat) (y : Int) : turnB (turnB t k y) k y = t := by
  have : (turnB (turnB t k y) k y).data = t.data := by
    apply Array.ext_getElem?
    intro j
    rw [turnB_at, turnB_at, Option.map_map]
    cases t.data[j]? with
    | none => rfl
    | some u =>
      by_cases h : j = k
      · simp [h, UInt8.xor_assoc]
      · simp [h]
  generalize turnB (turnB t k y) k y = a at this
  obtain ⟨a⟩ := a
  obtain ⟨t⟩ := t
  simp only at this
  rw [this]

theorem toList_eq_of {a b : ByteArray} (h : a.data.toList = b.data.toList) : (a.toList == b.toList) = true := by
  rw [ByteArray.toList_eq, ByteArray.toList_eq, h]; simp
theorem turn_before {s T : ByteArray} {k : Nat} {y : Int} (h : turnB s k y = T) : ((T.extract 0 k).toList == (s.extract 0 k).toList) = true := by
  subst h
  refine toList_eq_of ?_
  rw [ByteArray.data_extract, ByteArray.data_extract, Array.toList_extract, Array.toList_extract]
  apply List.ext_getElem?
  intro j
  by_cases hj : j < k
  · have h1 := turnB_at s k y j
    have h2 : (fun u : UInt8 => if j = k then u ^^^ UInt8.ofNat y.toNat else u) = id := by funext u; rw [if_neg (by omega)]; rfl
    rw [h2, Option.map_id, id] at h1
    simp [hj, h1]
  · simp [List.getElem?_take, hj]
theorem turn_behind {s T : ByteArray} {k : Nat} {y : Int} (h : turnB s k y = T) : ((T.extract (k + 1) T.size).toList == (s.extract (k + 1) s.size).toList) = true := by
  subst h
  refine toList_eq_of ?_
  rw [ByteArray.data_extract, ByteArray.data_extract, Array.toList_extract, Array.toList_extract, turnB_size]
  apply List.ext_getElem?
  intro j
  have h1 := turnB_at s k y (k + 1 + j)
  have h2 : (fun u : UInt8 => if k + 1 + j = k then u ^^^ UInt8.ofNat y.toNat else u) = id := by funext u; rw [if_neg (by omega)]; rfl
  rw [h2, Option.map_id, id] at h1
  simp [List.getElem?_take, h1]
theorem turn_there {s T : ByteArray} {k : Nat} {y : Int} (h : turnB s k y = T) (hk : k < s.size) (hkT : k < T.size) (hy : 0 ≤ y ∧ y ≤ 255) : ((T[k].toNat : Int) == bits .xor .u8 (s[k].toNat : Int) y) = true := by
  subst h
  have h1 := turnB_at s k y k
  have h2 : s.data[k]? = some s[k] := Array.getElem?_eq_getElem hk
  have h3 : (turnB s k y).data[k]? = some (turnB s k y)[k] := Array.getElem?_eq_getElem hkT
  rw [h2, h3] at h1
  simp only [Option.map_some, if_true, Option.some.injEq] at h1
  rw [h1, turn_val _ _ hy]
  simp

set_option maxRecDepth 4000 in
set_option maxHeartbeats 2000000 in
theorem turns_in (w : World) (s : ByteArray) (k : Nat) (y : Int) (hk : k < s.size) (hs : s.size ≤ 1000) (hy : 0 ≤ y ∧ y ≤ 255) :
    Calls Try.prog 3 #[.string s, .int .i64 k, .int .u8 y] w fun e w' => e = .returned (.bool true) ∧ Below w.heap.size w w' := by
  have dsz : decide ((1000 : Int) < (s.size : Int)) = false := by simp; omega
  go_enter Try.func3, Try.ntmps3
  go_wp2_with fail
  refine (shown_any w).mono ?_
  rintro e w0 ⟨rfl, hB0⟩
  have HB0 := Lib.hid hB0
  clear hB0
  go_wp2_with fail
  refine (newP w0 (fun k => k < w.heap.size) (fun k hk => Nat.lt_of_lt_of_le hk HB0.out.size) 9 (by decide) (by decide)).mono ?_
  rintro e w1 ⟨p, rfl, hN1, hB1⟩
  have HN1 := Lib.hid hN1
  have HB1 := Lib.hid (HB0.out.trans (hB1.mono HB0.out.size))
  clear hN1 hB1 HB0
  go_wp2_with fail
  refine (sendP w1 _ (fun k hk => Nat.lt_of_lt_of_le hk HB1.out.size) p _ HN1.out 3 4 s (by unfold maxLen; omega) (by decide) (by decide)).mono ?_
  rintro e w2 ⟨he, hN2, hK2⟩
  have hs2 : Nt.send ⟨9, 0, 0, []⟩ 3 4 s = (⟨9, 1, 0, [⟨1, 3, 4, s⟩]⟩, 1, 0) := by
    unfold Nt.send
    rw [if_neg (by omega), if_neg (by decide)]
    rfl
  rw [hs2] at he hN2
  subst he
  have HN2 : Hid (NetP (fun k => k < w.heap.size) w2 p ⟨9, 1, 0, [⟨1, 3, 4, s⟩]⟩) := Lib.hid hN2
  have HB2 := Lib.hid (HB1.out.trans (below_not hK2 HB1.out.size (fun _ h => h)))
  clear hN2 hK2 hs2 HN1 HB1
  go_wp2_with fail
  refine (turnP w2 _ p _ HN2.out ⟨1, 3, 4, s⟩ (List.mem_singleton.2 rfl) 1 (by unfold i64; omega) rfl k y hk hy).mono ?_
  rintro e w3 ⟨he, hN3, hK3⟩
  subst he
  have HN3 : Hid (NetP (fun k => k < w.heap.size) w3 p ⟨9, 1, 0, [⟨1, 3, 4, turnB s k y⟩]⟩) := Lib.hid hN3
  have HB3 := Lib.hid (HB2.out.trans (below_not hK3 HB2.out.size (fun _ h => h)))
  clear hN3 hK3 HN2 HB2
  have hbs := turnB_size s k y
  have hback := turnB_back s k y
  have hat := turnB_at s k y
  generalize hT : turnB s k y = T at HN3 hbs hback hat
  have hkT : k < T.size := by rw [hbs]; exact hk
  have hsT : T.size ≤ 1000 := by rw [hbs]; exact hs
  have HBS := Lib.hid hbs
  have HBK := Lib.hid hback
  have HAT := Lib.hid hat
  have HT := Lib.hid hT
  clear hbs hback hat hT
  go_wp2_with fail
  refine (copyP w3 _ (fun k hk => Nat.lt_of_lt_of_le hk HB3.out.size) p _ HN3.out ⟨1, 3, 4, T⟩ (List.mem_singleton.2 rfl) 1 (by unfold i64; omega) rfl (by simp) (by simp)).mono ?_
  rintro e w4 ⟨he, hN4, hK4⟩
  have hs4 : Nt.send ⟨9, 1, 0, [⟨1, 3, 4, T⟩]⟩ 3 4 T = (⟨9, 2, 0, [⟨1, 3, 4, T⟩, ⟨2, 3, 4, T⟩]⟩, 2, 0) := by
    unfold Nt.send
    rw [if_neg (by omega), if_neg (by simp)]
    rfl
  rw [hs4] at he hN4
  subst he
  have HN4 : Hid (NetP (fun k => k < w.heap.size) w4 p ⟨9, 2, 0, [⟨1, 3, 4, T⟩, ⟨2, 3, 4, T⟩]⟩) := Lib.hid hN4
  have HB4 := Lib.hid (HB3.out.trans (below_not hK4 HB3.out.size (fun _ h => h)))
  clear hN4 hK4 hs4 HN3 HB3
  go_wp2_with fail
  refine (turnP w4 _ p _ HN4.out ⟨1, 3, 4, T⟩ (by simp) 1 (by unfold i64; omega) rfl k y hkT hy).mono ?_
  rintro e w5 ⟨he, hN5, hK5⟩
  subst he
  rw [HBK.out] at hN5
  have HN5 : Hid (NetP (fun k => k < w.heap.size) w5 p ⟨9, 2, 0, [⟨1, 3, 4, s⟩, ⟨2, 3, 4, T⟩]⟩) := Lib.hid hN5
  have HB5 := Lib.hid (HB4.out.trans (below_not hK5 HB4.out.size (fun _ h => h)))
  clear hN5 hK5 HN4 HB4
  go_wp2_with fail
  refine (takeP w5 _ p _ HN5.out ⟨1, 3, 4, s⟩ (by simp) 1 (by unfold i64; omega) rfl).mono ?_
  rintro e w6 ⟨he, hN6, hK6⟩
  subst he
  have HN6 : Hid (NetP (fun k => k < w.heap.size) w6 p ⟨9, 2, 0, [⟨2, 3, 4, T⟩]⟩) := Lib.hid hN6
  have HB6 := Lib.hid (HB5.out.trans (below_not hK6 HB5.out.size (fun _ h => h)))
  clear hN6 hK6 HN5 HB5
  go_wp2_with fail
  have hN6 := (HN6.out.more (X' := fun k => k < w.heap.size ∨ k = w6.heap.size) (fun k hk => hk.imp id (fun e => by omega))).fresh ((Below.refl _ _).alloc (Nat.le_refl _) (.cells #[.int .i64 1, .int .i64 3, .int .i64 4, .string s] 32))
  refine (takeP _ _ p _ hN6 ⟨2, 3, 4, T⟩ (by simp) 2 (by unfold i64; omega) rfl).mono ?_
  rintro e w7 ⟨he, hN7, hK7⟩
  subst he
  have hs7 := hK7.size
  rw [World.size_alloc] at hs7
  have hs8 : w6.heap.size < w7.heap.size := by omega
  have c3 := (hK7.cell (a := ⟨w6.heap.size, 3, none⟩) (by simp) (fun h => h (.inr rfl))).trans (cell_of_row _ w6.heap.size 3 _ _ _ (heap_alloc_new w6 _))
  change w7.cell? ⟨w6.heap.size, 3, none⟩ = some (.string s) at c3
  have HB7 := Lib.hid (HB6.out.trans (((Below.refl _ _).alloc HB6.out.size _).trans (below_not hK7 (by have := HB6.out.size; simp; omega) (fun k hk => .inl hk))))
  clear hN7 hK7 hN6 HN6 HB6 hs7
  have tsz : ((T.size : Int) != (s.size : Int)) = false := by rw [HBS.out]; simp
  have tss : (!(s.toList == s.toList)) = false := by simp
  go_wp2_with fail
  have q0 : (0 : Int) ≤ (k : Int) := by omega
  have q1 : (k : Int) ≤ (T.size : Int) := by omega
  have q2 : (k : Int) ≤ (s.size : Int) := by omega
  have q3 : IntKind.i64.wrap ((k : Int) + 1) = (k : Int) + 1 := IntWalk.i64_in _ (by omega)
  have q4 : ((k : Int) + 1).toNat = k + 1 := by omega
  have q5 : (k : Int) + 1 ≤ (T.size : Int) := by omega
  have q6 : (k : Int) + 1 ≤ (s.size : Int) := by omega
  have q7 : (0 : Int) ≤ (k : Int) + 1 := by omega
  have q8 := turn_before HT.out
  have q9 := turn_behind HT.out
  have q10 := turn_there HT.out hk hkT hy
  go_quiet (fail)
  go_wp2_with fail
  go_ret
  exact ⟨rfl, (HB7.out.alloc (by have := HB7.out.size; omega) _).trans ⟨rfl, rfl, rfl, Nat.le_refl _, fun _ _ => rfl⟩⟩

set_option maxRecDepth 4000 in
set_option maxHeartbeats 2000000 in
theorem turns_out (w : World) (s : ByteArray) (at_ : Int) (y : Int) (ho : at_ < 0 ∨ (s.size : Int) ≤ at_) (hs : s.size ≤ 1000) (ib : Bool) (hib : decide (0 ≤ at_) = ib) (hib2 : ib = true → decide (at_ < (s.size : Int)) = false) :
    Calls Try.prog 3 #[.string s, .int .i64 at_, .int .u8 y] w fun e w' => e = .returned (.bool true) ∧ Below w.heap.size w w' := by
  have dsz : decide ((1000 : Int) < (s.size : Int)) = false := by simp; omega
  have HO := Lib.hid ho
  have HI := Lib.hid hib
  have HI2 := Lib.hid hib2
  clear ho hib hib2
  go_enter Try.func3, Try.ntmps3
  go_wp2_with fail
  refine (shown_any w).mono ?_
  rintro e w0 ⟨rfl, hB0⟩
  have HB0 := Lib.hid hB0
  clear hB0
  go_wp2_with fail
  refine (newP w0 (fun k => k < w.heap.size) (fun k hk => Nat.lt_of_lt_of_le hk HB0.out.size) 9 (by decide) (by decide)).mono ?_
  rintro e w1 ⟨p, rfl, hN1, hB1⟩
  have HN1 := Lib.hid hN1
  have HB1 := Lib.hid (HB0.out.trans (hB1.mono HB0.out.size))
  clear hN1 hB1 HB0
  go_wp2_with fail
  refine (sendP w1 _ (fun k hk => Nat.lt_of_lt_of_le hk HB1.out.size) p _ HN1.out 3 4 s (by unfold maxLen; omega) (by decide) (by decide)).mono ?_
  rintro e w2 ⟨he, hN2, hK2⟩
  have hs2 : Nt.send ⟨9, 0, 0, []⟩ 3 4 s = (⟨9, 1, 0, [⟨1, 3, 4, s⟩]⟩, 1, 0) := by
    unfold Nt.send
    rw [if_neg (by omega), if_neg (by decide)]
    rfl
  rw [hs2] at he hN2
  subst he
  have HN2 : Hid (NetP (fun k => k < w.heap.size) w2 p ⟨9, 1, 0, [⟨1, 3, 4, s⟩]⟩) := Lib.hid hN2
  have HB2 := Lib.hid (HB1.out.trans (below_not hK2 HB1.out.size (fun _ h => h)))
  clear hN2 hK2 hs2 HN1 HB1
  go_wp2_with fail
  refine (turnNoP w2 _ p _ HN2.out ⟨1, 3, 4, s⟩ (List.mem_singleton.2 rfl) 1 (by unfold i64; omega) rfl at_ y HO.out).mono ?_
  rintro e w3 ⟨rfl, rfl⟩
  go_wp2_with fail
  refine (copyP w2 _ (fun k hk => Nat.lt_of_lt_of_le hk HB2.out.size) p _ HN2.out ⟨1, 3, 4, s⟩ (List.mem_singleton.2 rfl) 1 (by unfold i64; omega) rfl (by simp) (by simp)).mono ?_
  rintro e w4 ⟨he, hN4, hK4⟩
  have hs4 : Nt.send ⟨9, 1, 0, [⟨1, 3, 4, s⟩]⟩ 3 4 s = (⟨9, 2, 0, [⟨1, 3, 4, s⟩, ⟨2, 3, 4, s⟩]⟩, 2, 0) := by
    unfold Nt.send
    rw [if_neg (by omega), if_neg (by simp)]
    rfl
  rw [hs4] at he hN4
  subst he
  have HN4 : Hid (NetP (fun k => k < w.heap.size) w4 p ⟨9, 2, 0, [⟨1, 3, 4, s⟩, ⟨2, 3, 4, s⟩]⟩) := Lib.hid hN4
  have HB4 := Lib.hid (HB2.out.trans (below_not hK4 HB2.out.size (fun _ h => h)))
  clear hN4 hK4 hs4 HN2 HB2
  go_wp2_with fail
  refine (turnNoP w4 _ p _ HN4.out ⟨1, 3, 4, s⟩ (by simp) 1 (by unfold i64; omega) rfl at_ y HO.out).mono ?_
  rintro e w5 ⟨rfl, rfl⟩
  go_wp2_with fail
  refine (takeP w4 _ p _ HN4.out ⟨1, 3, 4, s⟩ (by simp) 1 (by unfold i64; omega) rfl).mono ?_
  rintro e w6 ⟨he, hN6, hK6⟩
  subst he
  have HN6 : Hid (NetP (fun k => k < w.heap.size) w6 p ⟨9, 2, 0, [⟨2, 3, 4, s⟩]⟩) := Lib.hid hN6
  have HB6 := Lib.hid (HB4.out.trans (below_not hK6 HB4.out.size (fun _ h => h)))
  clear hN6 hK6 HN4 HB4
  go_wp2_with fail
  have hN6 := (HN6.out.more (X' := fun k => k < w.heap.size ∨ k = w6.heap.size) (fun k hk => hk.imp id (fun e => by omega))).fresh ((Below.refl _ _).alloc (Nat.le_refl _) (.cells #[.int .i64 1, .int .i64 3, .int .i64 4, .string s] 32))
  refine (takeP _ _ p _ hN6 ⟨2, 3, 4, s⟩ (by simp) 2 (by unfold i64; omega) rfl).mono ?_
  rintro e w7 ⟨he, hN7, hK7⟩
  subst he
  have hs7 := hK7.size
  rw [World.size_alloc] at hs7
  have hs8 : w6.heap.size < w7.heap.size := by omega
  have c3 := (hK7.cell (a := ⟨w6.heap.size, 3, none⟩) (by simp) (fun h => h (.inr rfl))).trans (cell_of_row _ w6.heap.size 3 _ _ _ (heap_alloc_new w6 _))
  change w7.cell? ⟨w6.heap.size, 3, none⟩ = some (.string s) at c3
  have HB7 := Lib.hid (HB6.out.trans (((Below.refl _ _).alloc HB6.out.size _).trans (below_not hK7 (by have := HB6.out.size; simp; omega) (fun k hk => .inl hk))))
  clear hN7 hK7 hN6 HN6 HB6 hs7
  have tss : (!(s.toList == s.toList)) = false := by simp
  cases ib
  · have d1 := HI.out
    go_wp2_with fail
    go_quiet (fail)
    go_wp2_with fail
    go_ret
    exact ⟨rfl, (HB7.out.alloc (by have := HB7.out.size; omega) _).trans ⟨rfl, rfl, rfl, Nat.le_refl _, fun _ _ => rfl⟩⟩
  · have d1 := HI.out
    have d2 := HI2.out rfl
    go_wp2_with fail
    go_quiet (fail)
    go_wp2_with fail
    go_ret
    exact ⟨rfl, (HB7.out.alloc (by have := HB7.out.size; omega) _).trans ⟨rfl, rfl, rfl, Nat.le_refl _, fun _ _ => rfl⟩⟩

set_option maxHeartbeats 400000 in
theorem turns_long (w : World) (s : ByteArray) (at_ : Int) (y : Int) (hs : 1000 < s.size) (hm : s.size ≤ 140737488355328) :
    Calls Try.prog 3 #[.string s, .int .i64 at_, .int .u8 y] w fun e w' => e = .returned (.bool true) ∧ Below w.heap.size w w' := by
  have dsz : decide ((1000 : Int) < (s.size : Int)) = true := by simp; omega
  go_enter Try.func3, Try.ntmps3
  go_wp2_with fail
  refine (shown_any w).mono ?_
  rintro e w0 ⟨rfl, hB0⟩
  have HB0 := Lib.hid hB0
  clear hB0
  go_wp2_with fail
  refine (newP w0 (fun k => k < w.heap.size) (fun k hk => Nat.lt_of_lt_of_le hk HB0.out.size) 9 (by decide) (by decide)).mono ?_
  rintro e w1 ⟨p, rfl, hN1, hB1⟩
  have HB1 := Lib.hid (HB0.out.trans (hB1.mono HB0.out.size))
  clear hN1 hB1 HB0
  go_wp2_with fail
  go_ret
  exact ⟨rfl, HB1.out⟩

theorem turns_any (w : World) (s : ByteArray) (at_ : Int) (y : Int) (hm : s.size ≤ 140737488355328) (hy : 0 ≤ y ∧ y ≤ 255) :
    Calls Try.prog 3 #[.string s, .int .i64 at_, .int .u8 y] w fun e w' => e = .returned (.bool true) ∧ Below w.heap.size w w' := by
  by_cases hs : s.size ≤ 1000
  · by_cases hin : 0 ≤ at_ ∧ at_ < s.size
    · obtain ⟨k, rfl⟩ := Int.eq_ofNat_of_zero_le hin.1
      exact turns_in w s k y (by omega) hs hy
    · exact turns_out w s at_ y (by omega) hs _ rfl (fun h => by simp only [decide_eq_true_eq] at h; simp; omega)
  · exact turns_long w s at_ y (by omega) hm
end Go.Proofs.Ytnooggfecgidcaa
