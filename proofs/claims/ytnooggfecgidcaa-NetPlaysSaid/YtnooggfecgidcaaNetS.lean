/- The document's net: Turn. -/
import Derived.Test.YtnooggfecgidcaaNetR
import Derived.RegionTactic
import Derived.ChangeAlike
import Derived.BigRegion
namespace Go.Proofs.Ytnooggfecgidcaa
open Go.RowKit Go.Bl
attribute [local go_sem ↓] Go.wp_at_zero Go.wp_at_succ

set_option maxHeartbeats 400000 in
theorem rturn_no (w : World) (p : Nat) (s : Nt) (F : Nat → Prop) (h : RNetAt w p s F) (x : Int) (hn : ∀ q ∈ s.L, q.no ≠ x) (at_ by_ : Int) :
    Calls Try.prog 23 #[.pointer (some ⟨p, 0, none⟩), .int .i64 x, .int .i64 at_, .int .u8 by_] w fun e w' => e = .returned (.bool false) ∧ w = w' := by
  go_enter Try.func23, Try.ntmps23
  go_wp2_with fail
  refine (rfind_any _ p s F h x).mono ?_
  rintro e w1 ⟨r, rfl, hr, rfl⟩
  obtain rfl : r = -1 := by
    rcases hr with ⟨k, hk, he, _⟩ | ⟨_, he⟩
    · exact absurd he (hn _ (List.getElem_mem hk))
    · exact he
  clear hr hn h
  go_wp2_with fail
  go_ret
  exact ⟨rfl, rfl⟩

set_option maxHeartbeats 400000 in
theorem rturn_out (w : World) (p : Nat) (s : Nt) (F : Nat → Prop) (h : RNetAt w p s F) (x : Int) (kk : Nat) (hk : kk < s.L.length) (he : s.L[kk].no = x) (at_ by_ : Int) (ho : at_ < 0 ∨ (s.L[kk].txt.size : Int) ≤ at_) :
    Calls Try.prog 23 #[.pointer (some ⟨p, 0, none⟩), .int .i64 x, .int .i64 at_, .int .u8 by_] w fun e w' => e = .returned (.bool false) ∧ w = w' := by
  go_enter Try.func23, Try.ntmps23
  go_wp2_with fail
  refine (rfind_any _ p s F h x).mono ?_
  rintro e w1 ⟨r, rfl, hr, rfl⟩
  obtain ⟨v, h⟩ := h
  obtain rfl := find_is h.ok.rise hr hk he
  have hln : s.L.length ≤ 1048576 := by have := h.ok.len; have := h.ok.room2; omega
  have hts := h.ok.txt _ (List.getElem_mem hk)
  have c0 := h.c0
  have H := Lib.hid h
  obtain ⟨A, c, rfl, hc1, hc2⟩ := h.row.shape_ rfl
  obtain ⟨b, o, hA, hob, hbl, hxx⟩ := (h.row.sl elRPk.len).cell_ hk
  have x3 := hxx 3 _ rfl
  subst hA
  unfold maxLen at hc2
  have hkI : (kk : Int) < (s.L.length : Int) := by omega
  clear hxx h hr he H hob
  by_cases h1 : at_ < 0
  · have d1 : decide (at_ < 0) = true := by simpa using h1
    clear ho
    go_wp2_with fail
    go_ret
    exact ⟨rfl, rfl⟩
  · have d1 : decide (at_ < 0) = false := by simpa using h1
    have d2 : decide ((s.L[kk].txt.size : Int) ≤ at_) = true := by simp; omega
    clear ho
    go_wp2_with fail
    go_ret
    exact ⟨rfl, rfl⟩

theorem turnB_parts (t : ByteArray) (k : Nat) (y : Int) (h : k < t.size) : t.extract 0 k ++ ⟨#[t[k] ^^^ UInt8.ofNat y.toNat]⟩ ++ t.extract (k + 1) t.size = turnB t k y := by
  have hd : ∀ a b : ByteArray, a.data.toList = b.data.toList → a = b := by
    rintro ⟨⟨a⟩⟩ ⟨⟨b⟩⟩ h
    simp only at h
    rw [h]
  apply hd
  have hk' : k < t.data.toList.length := by rw [Array.length_toList]; exact h
  have hsz : t.size = t.data.toList.length := by rw [Array.length_toList]; rfl
  show _ = (t.data.modify k _).toList
  rw [Array.toList_modify, List.modify_eq_take_cons_drop hk', ByteArray.data_append, ByteArray.data_append, ByteArray.data_extract, ByteArray.data_extract, Array.toList_append, Array.toList_append, Array.toList_extract, Array.toList_extract, hsz,
    List.extract_eq_take_drop, List.extract_eq_take_drop, List.drop_zero, Nat.sub_zero, List.take_of_length_le (l := t.data.toList.drop (k + 1)) (by simp), List.append_assoc]
  rfl

set_option maxHeartbeats 1000000 in
theorem rturn_in (w : World) (p : Nat) (s : Nt) (F : Nat → Prop) (h : RNetAt w p s F) (x : Int) (kk : Nat) (hk : kk < s.L.length) (he : s.L[kk].no = x) (k : Nat) (by_ : Int) (hkt : k < s.L[kk].txt.size) (hby : 0 ≤ by_ ∧ by_ ≤ 255) :
    Calls Try.prog 23 #[.pointer (some ⟨p, 0, none⟩), .int .i64 x, .int .i64 k, .int .u8 by_] w fun e w' => e = .returned (.bool true) ∧ Keeps F w w' ∧ RNetAt w' p (s.turn x (turnB s.L[kk].txt k by_)) F := by
  go_enter Try.func23, Try.ntmps23
  go_wp2_with fail
  refine (rfind_any _ p s F h x).mono ?_
  rintro e w1 ⟨r, rfl, hr, rfl⟩
  obtain ⟨v, h⟩ := h
  obtain rfl := find_is h.ok.rise hr hk he
  have hln : s.L.length ≤ 1048576 := by have := h.ok.len; have := h.ok.room2; omega
  have hts := h.ok.txt _ (List.getElem_mem hk)
  have c0 := h.c0
  have H := Lib.hid h
  obtain ⟨A, c, rfl, hc1, hc2⟩ := h.row.shape_ rfl
  obtain ⟨b, o, hA, hob, hbl, hxx⟩ := (h.row.sl elRPk.len).cell_ hk
  have x3 := hxx 3 _ rfl
  subst hA
  unfold maxLen at hc2
  have hkI : (kk : Int) < (s.L.length : Int) := by omega
  have d1 : decide ((k : Int) < 0) = false := by simp
  have d2 : decide ((s.L[kk].txt.size : Int) ≤ (k : Int)) = false := by simp; omega
  have HE := Lib.hid he
  have HOB := Lib.hid hob
  clear hxx h hr he hob
  go_upto_region 5 with (fail)
  have hcv : ∀ X : World, X.cell? ⟨w.heap.size, 0, none⟩ = some (.int .u8 (bits .xor .u8 (s.L[kk].txt[k].toNat : Int) by_)) → (convert 62 9 (.slice (some ⟨w.heap.size, 0, none⟩) 1 1)).run Try.prog X = .ok (.string ⟨#[s.L[kk].txt[k] ^^^ UInt8.ofNat by_.toNat]⟩) X := fun X hX =>
    from_bytes Try.underlying62 Try.underlying5 Try.underlying9 X w.heap.size 0 1 1 ⟨#[s.L[kk].txt[k] ^^^ UInt8.ofNat by_.toNat]⟩ rfl (fun j u hu => by
      have hj : j = 0 := by
        have := (Array.getElem?_eq_some_iff.1 hu).1
        simp at this
        exact this
      subst hj
      simp at hu
      subst hu
      rw [Nat.zero_add, hX, turn_val _ _ hby])
  have q0 : (0 : Int) ≤ (k : Int) := by omega
  have q2 : (k : Int) ≤ (s.L[kk].txt.size : Int) := by omega
  have q3 : IntKind.i64.wrap ((k : Int) + 1) = (k : Int) + 1 := IntWalk.i64_in _ (by omega)
  have q4 : ((k : Int) + 1).toNat = k + 1 := by omega
  have q6 : (k : Int) + 1 ≤ (s.L[kk].txt.size : Int) := by omega
  have q7 : (0 : Int) ≤ (k : Int) + 1 := by omega
  obtain ⟨rfl, hfz⟩ : o = 0 ∧ ∀ j, w.frozen? ⟨b, j, none⟩ = false := by
    obtain ⟨_, h2⟩ := H.out.row
    rcases h2 with ⟨hc, _⟩ | ⟨g, cap, cur, hc, _, hg, _⟩
    · simp at hc
    · simp only [Value.slice.injEq, Option.some.injEq, Addr.mk.injEq, and_true] at hc
      obtain ⟨⟨rfl, rfl⟩, _⟩ := hc
      exact ⟨rfl, fun j => frozen_block hg j⟩
  have fb := hfz (0 + kk * 4 + 3)
  rw [Nat.zero_add] at fb x3
  have hbp : b ≠ p := fun e => H.out.vp (by rw [HOB.out, e])
  have hm1 : ¬ (9223372036854775807 < min k s.L[kk].txt.size + 1) := by omega
  have hm2 : ¬ (9223372036854775807 < min k s.L[kk].txt.size + 1 + (s.L[kk].txt.size - (k + 1))) := by omega
  have hpl := H.out.lt p H.out.fp
  go_region
  go_wp2_with fail
  go_ret
  rw [turnB_parts _ _ _ hkt]
  have h := H.out
  have hset := h.row.set (fun _ => rfl) hk (j := 3) (by decide) (x := { s.L[kk] with txt := turnB s.L[kk].txt k by_ }) (u := .string (turnB s.L[kk].txt k by_)) rfl
  rw [set_turn h.ok.rise hk HE.out] at hset
  have hkB : Keeps (fun q => q = b) w (w.setCell ⟨b, kk * 4 + 3, none⟩ (.string (turnB s.L[kk].txt k by_))) := Keeps.one w b _ _
  have hkk := (hkB.alloc (.cells #[.int .u8 (bits .xor .u8 (s.L[kk].txt[k].toNat : Int) by_)] 5)).drew
  refine ⟨rfl, hkk.mono (fun q _ e => e ▸ h.fv b HOB.out), _, hkk.grownTo h.blk (fun e => hbp e.symm), ?_, h.fp, h.fv, fun q hq => Nat.lt_of_lt_of_le (h.lt q hq) hkk.size, h.ok.turn x _ (by rw [turnB_size]; exact hts)⟩
  exact (hset.fresh ((Below.refl _ _).alloc (Nat.le_refl _) _)).drewN 1
end Go.Proofs.Ytnooggfecgidcaa
