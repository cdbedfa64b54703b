/- sameTexts; the document's Names. -/
import Derived.Test.YtlfhokcjbgpjhaaGreatDoorIdxR
import Derived.Test.YtlfhokcjbgpjhaaGreatDoorBlD
namespace Go.Proofs.YtlfhokcjbgpjhaaGreatDoor.Idx
open Go.RowKit Go.Bl

set_option maxHeartbeats 400000 in
theorem sameT_any (w : World) (G G' : Nat → Prop) (va vb : Value) (xs ys : List ByteArray) (ha : Sl w G 1 strc va xs) (hb : Sl w G' 1 strc vb ys) :
    Calls Tryz.prog 32 #[va, vb] w fun e w' => e = .returned (.bool (decide (xs = ys))) ∧ ∃ q, w' = w.drewN q := by
  obtain ⟨A, c, rfl, hA1, hA2⟩ := ha.shape
  obtain ⟨B, d, rfl, hB1, hB2⟩ := hb.shape
  have HA := Lib.hid ha
  have HB := Lib.hid hb
  unfold maxLen at hA2 hB2
  clear ha hb
  by_cases hnm : xs.length = ys.length
  · have h1 : ((xs.length : Int) != (ys.length : Int)) = false := by simp [hnm]
    have HH := Lib.hid hnm
    clear hnm
    go_enter Tryz.func32, Tryz.ntmps32
    go_wp2_with fail
    go_loopw [5] (fun i wr => ∃ k q : Nat, k ≤ xs.length ∧ i = .int .i64 k ∧ wr = w.drewN q ∧ xs.take k = ys.take k) (fun i _ => xs.length - (intOf i).toNat)
    case atStart => exact ⟨0, 0, Nat.zero_le _, rfl, rfl, rfl⟩
    case round =>
      obtain ⟨k, q, hk, rfl, rfl, hH'⟩ := hrel
      have hH := Lib.hid hH'
      clear hH'
      by_cases hlt : k < xs.length
      · have hmk : k < ys.length := by rw [← HH.out]; exact hlt
        obtain ⟨b, o, rfl, _, _, hxx⟩ := HA.out.cell_ hlt
        obtain ⟨b', o', rfl, _, _, hyy⟩ := HB.out.cell_ hmk
        have x1 := hxx 0 _ rfl
        have y1 := hyy 0 _ rfl
        simp only [Nat.add_zero, Nat.mul_one] at x1 y1
        clear hxx hyy
        have hkk : k < 9223372036854775807 := by omega
        by_cases he : xs[k] = ys[k]
        · have hd := eqS_true he
          have HE := Lib.hid he
          clear he
          go_wp2_with fail
          go_quiet (fail)
          go_wp2_with fail
          go_roundw
          case rel => exact ⟨k + 1, _, by omega, by go_num, rfl, by rw [List.take_succ_eq_append_getElem hlt, List.take_succ_eq_append_getElem hmk, hH.out, HE.out]⟩
          case measure => simp [intOf]; omega
        · have hd := eqS_false he
          have hf : decide (xs = ys) = false := by
            rw [decide_eq_false_iff_not]; intro h; subst h; exact he rfl
          have HF := Lib.hid hf
          clear he hf
          go_wp2_with fail
          go_quiet (fail)
          go_wp2_with fail
          go_ret
          rw [HF.out]
          exact ⟨rfl, _, World.drewN_drewN _ _ _⟩
      · go_wp2_with fail
        go_ret
        have hkd : k = xs.length := by omega
        have h := hH.out
        rw [List.take_of_length_le (by omega), List.take_of_length_le (by have := HH.out; omega)] at h
        rw [decide_eq_true h]
        exact ⟨rfl, _, rfl⟩
  · have h1 : ((xs.length : Int) != (ys.length : Int)) = true := by simp; omega
    have hf : decide (xs = ys) = false := by
      rw [decide_eq_false_iff_not]; intro h; exact hnm (by rw [h])
    rw [hf]
    clear hnm hf
    go_enter Tryz.func32, Tryz.ntmps32
    go_wp2_with fail
    go_ret
    exact ⟨rfl, 0, rfl⟩

/-! ### the document's Names -/
def ltB (a b : ByteArray) : Bool := Op.bytesLess a.toList b.toList
theorem ltB_iff {a b : ByteArray} : ltB a b = true ↔ bLt a b := Iff.rfl
/-- How many of the texts stand ahead of s. -/
def ahead : List ByteArray → ByteArray → Nat
  | [], _ => 0
  | x :: ks, s => if ltB x s then ahead ks s + 1 else 0
def insName (ks : List ByteArray) (s : ByteArray) : List ByteArray := if ks[ahead ks s]? = some s then ks else ks.take (ahead ks s) ++ [s] ++ ks.drop (ahead ks s)
def namesOf (L : List One) : List ByteArray := L.foldl (fun ks o => insName ks o.stream) []
theorem namesOf_snoc (L : List One) (o : One) : namesOf (L ++ [o]) = insName (namesOf L) o.stream := by simp [namesOf]

theorem bLt_trans {a b c : ByteArray} (h : bLt a b) (k : bLt b c) : bLt a c := by rw [bLt_iff] at *; exact List.lt_trans h k
theorem bLt_irrefl (a : ByteArray) : ¬ bLt a a := by rw [bLt_iff]; exact List.lt_irrefl _
theorem bLt_total {a b : ByteArray} (h : a ≠ b) : bLt a b ∨ bLt b a := by
  rw [bLt_iff, bLt_iff]
  rcases List.le_total a.toList b.toList with h1 | h1
  · rcases List.le_iff_lt_or_eq.1 h1 with h2 | h2
    · exact .inl h2
    · exact absurd ((bytes_inj a b).mp h2) h
  · rcases List.le_iff_lt_or_eq.1 h1 with h2 | h2
    · exact .inr h2
    · exact absurd ((bytes_inj b a).mp h2).symm h

theorem ahead_le : ∀ (ks : List ByteArray) (s : ByteArray), ahead ks s ≤ ks.length
  | [], _ => Nat.le_refl _
  | x :: ks, s => by
    unfold ahead
    split
    · have := ahead_le ks s; simp only [List.length_cons]; omega
    · simp
theorem ahead_eq : ∀ {ks : List ByteArray} {s : ByteArray} {j : Nat}, j ≤ ks.length → (∀ i x, i < j → ks[i]? = some x → bLt x s) → (∀ x, ks[j]? = some x → ¬ bLt x s) → ahead ks s = j
  | [], s, j, hj, _, _ => by simp at hj; simp [ahead, hj]
  | x :: ks, s, 0, _, _, h2 => by
    have hx : ltB x s = false := by cases hb : ltB x s; rfl; exact absurd (ltB_iff.1 hb) (h2 x rfl)
    simp [ahead, hx]
  | x :: ks, s, j + 1, hj, h1, h2 => by
    have hx : ltB x s = true := ltB_iff.2 (h1 0 x (by omega) rfl)
    unfold ahead
    rw [if_pos hx, ahead_eq (j := j) (by simpa using hj) (fun i y hi hy => h1 (i + 1) y (by omega) (by simpa using hy)) (fun y hy => h2 y (by simpa using hy))]
theorem take_ahead_lt : ∀ (ks : List ByteArray) (s : ByteArray), ∀ x ∈ ks.take (ahead ks s), bLt x s
  | [], _, x, hx => by simp at hx
  | y :: ks, s, x, hx => by
    unfold ahead at hx
    split at hx
    · rename_i hy
      rw [List.take_succ_cons] at hx
      rcases List.mem_cons.1 hx with rfl | hx
      · exact ltB_iff.1 hy
      · exact take_ahead_lt ks s x hx
    · simp at hx
theorem at_ahead : ∀ {ks : List ByteArray} {s : ByteArray} (h : ahead ks s < ks.length), ¬ bLt ks[ahead ks s] s
  | [], _, h => by simp at h
  | y :: ks, s, h => by
    by_cases hy : ltB y s = true
    · have e : ahead (y :: ks) s = ahead ks s + 1 := by simp [ahead, hy]
      have h' : ahead ks s < ks.length := by rw [e] at h; simpa using h
      have := at_ahead h'
      simpa [e] using this
    · have e : ahead (y :: ks) s = 0 := by simp [ahead, hy]
      simp only [e, List.getElem_cons_zero]
      exact fun hb => hy (ltB_iff.2 hb)

theorem rising_ins {ks : List ByteArray} (s : ByteArray) (h : Rising ks) : Rising (insName ks s) ∧ ∀ x, x ∈ insName ks s ↔ x = s ∨ x ∈ ks := by
  unfold insName
  split
  · rename_i he
    refine ⟨h, fun x => ⟨.inr, ?_⟩⟩
    rintro (rfl | hx)
    · exact List.mem_of_getElem? he
    · exact hx
  · rename_i he
    have hsplit := List.take_append_drop (ahead ks s) ks
    have hr : (ks.take (ahead ks s) ++ ks.drop (ahead ks s)).Pairwise bLt := by rw [hsplit]; exact h
    obtain ⟨q1, q2, q3⟩ := List.pairwise_append.1 hr
    have hd : ∀ x ∈ ks.drop (ahead ks s), bLt s x := by
      intro x hx
      by_cases hlt : ahead ks s < ks.length
      · rw [List.drop_eq_getElem_cons hlt] at hx q2
        have hne : s ≠ ks[ahead ks s] := fun e => he (by rw [List.getElem?_eq_getElem hlt, ← e])
        have h0 : bLt s ks[ahead ks s] := (bLt_total hne).resolve_right (at_ahead hlt)
        rcases List.mem_cons.1 hx with rfl | hx
        · exact h0
        · exact bLt_trans h0 ((List.pairwise_cons.1 q2).1 x hx)
      · rw [List.drop_eq_nil_of_le (by omega)] at hx; cases hx
    refine ⟨?_, fun x => ?_⟩
    · refine List.pairwise_append.2 ⟨List.pairwise_append.2 ⟨q1, by simp, fun a ha b hb => ?_⟩, q2, fun a ha b hb => ?_⟩
      · simp at hb; subst hb; exact take_ahead_lt ks b a ha
      · rcases List.mem_append.1 ha with ha | ha
        · exact q3 a ha b hb
        · simp at ha; subst ha; exact hd b hb
    · rw [List.mem_append, List.mem_append, List.mem_singleton]
      conv => rhs; rw [← hsplit, List.mem_append]
      constructor
      · rintro ((h | h) | h)
        · exact .inr (.inl h)
        · exact .inl h
        · exact .inr (.inr h)
      · rintro (h | h | h)
        · exact .inl (.inr h)
        · exact .inl (.inl h)
        · exact .inr h

theorem namesOf_from : ∀ (L M : List One) (ks : List ByteArray), Rising ks → (∀ s, s ∈ ks ↔ ofS M s ≠ []) → Rising (L.foldl (fun ks o => insName ks o.stream) ks) ∧ ∀ s, s ∈ L.foldl (fun ks o => insName ks o.stream) ks ↔ ofS (M ++ L) s ≠ []
  | [], M, ks, h1, h2 => by simpa using ⟨h1, h2⟩
  | o :: L, M, ks, h1, h2 => by
    obtain ⟨q1, q2⟩ := rising_ins o.stream h1
    have := namesOf_from L (M ++ [o]) (insName ks o.stream) q1 (fun s => by
      rw [q2, h2, ofS_snoc]
      by_cases h : o.stream = s
      · simp [h]
      · simp [h, Ne.symm h])
    simpa using this
theorem namesOf_spec (L : List One) : Rising (namesOf L) ∧ ∀ s, s ∈ namesOf L ↔ ofS L s ≠ [] := by
  have := namesOf_from L [] [] List.Pairwise.nil (fun s => by simp [ofS])
  simpa [namesOf] using this
theorem rising_ext : ∀ {xs ys : List ByteArray}, Rising xs → Rising ys → (∀ s, s ∈ xs ↔ s ∈ ys) → xs = ys
  | [], [], _, _, _ => rfl
  | [], y :: ys, _, _, h => absurd ((h y).2 (by simp)) (by simp)
  | x :: xs, [], _, _, h => absurd ((h x).1 (by simp)) (by simp)
  | x :: xs, y :: ys, hx, hy, h => by
    obtain ⟨a1, a2⟩ := List.pairwise_cons.1 hx
    obtain ⟨b1, b2⟩ := List.pairwise_cons.1 hy
    have e : x = y := by
      rcases List.mem_cons.1 ((h x).1 (by simp)) with e | e
      · exact e
      · rcases List.mem_cons.1 ((h y).2 (by simp)) with e' | e'
        · exact e'.symm
        · exact absurd (bLt_trans (a1 y e') (b1 x e)) (bLt_irrefl x)
    subst e
    rw [rising_ext a2 b2 (fun s => ?_)]
    have := h s
    rw [List.mem_cons, List.mem_cons] at this
    constructor
    · intro hs
      rcases this.1 (.inr hs) with e | e
      · subst e; exact absurd (a1 s hs) (bLt_irrefl s)
      · exact e
    · intro hs
      rcases this.2 (.inr hs) with e | e
      · subst e; exact absurd (b1 s hs) (bLt_irrefl s)
      · exact e
end Go.Proofs.YtlfhokcjbgpjhaaGreatDoor.Idx
