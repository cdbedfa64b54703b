/- The document's disk: find and Synced only draw. -/
import Derived.Test.YthdehdlbocgfaaaGreatDoorDskY
namespace Go.Proofs.YthdehdlbocgfaaaGreatDoor
open Go.RowKit Go.Bl
attribute [local go_sem ↓] Go.wp_at_zero Go.wp_at_succ

set_option maxRecDepth 8000 in
set_option maxHeartbeats 2000000 in
theorem find_drew (w : World) (m : Nat) (room : Int) (S : List Fl) (F : Nat → Prop) (h : MdAt w m room S F) (x : ByteArray) (_hl : S.length ≤ 1000000) :
    Calls Tryz.prog 58 #[.pointer (some ⟨m, 0, none⟩), .string x] w fun e w' => e = .returned (.tuple #[.int .i64 (aheadF S x), .bool (isF S x)]) ∧ ∃ n, w' = w.drewN n := by
  obtain ⟨v, h⟩ := h
  obtain ⟨A, c, rfl, hc1, hc2⟩ := h.row.shape_ (n := S.length) rfl
  unfold maxLen at hc2
  have c0 := h.c0
  have HS := Lib.hid (h.row.sl elFl.len)
  clear h
  go_enter Tryz.func58, Tryz.ntmps58
  go_wp2_with fail
  go_loop [6] (fun i => ∃ k : Nat, k ≤ S.length ∧ i = .int .i64 k ∧ ∀ j f, j < k → S[j]? = some f → bLt f.name x) (fun i => S.length - (RowKit.intOf i).toNat)
  case atStart => exact ⟨0, Nat.zero_le _, rfl, fun j f hj => by omega⟩
  case round =>
    obtain ⟨k, hk, rfl, hlo⟩ := hrel
    have HLO := Lib.hid hlo
    clear hlo
    by_cases hlt : k < S.length
    · obtain ⟨b, o, rfl, _, _, hxx⟩ := HS.out.cell_ hlt
      have x0 := hxx 0 _ rfl
      simp only [Nat.add_zero] at x0
      clear hxx
      have hk0 : (0 : Int) ≤ (k : Int) := by omega
      have hk1 : (k : Int) < (S.length : Int) := by omega
      cases hb : Op.bytesLess S[k].name.toList x.toList
      · have HA : Hid (aheadF S x = k) := Lib.hid (aheadF_eq hk HLO.out (fun f hf => by
          rw [List.getElem?_eq_getElem hlt] at hf
          injection hf with hf
          subst hf
          intro hc
          have hc : Op.bytesLess S[k].name.toList x.toList = true := hc
          rw [hb] at hc; cases hc))
        have HI : Hid (isF S x = decide (S[k].name = x)) := Lib.hid (by unfold isF; rw [HA.out, List.getElem?_eq_getElem hlt])
        by_cases he : S[k].name = x
        · have de := strEq_true he
          have HI2 : Hid (isF S x = true) := Lib.hid (by rw [HI.out, decide_eq_true he])
          clear he HLO
          go_upto_region 4 with (fail)
          go_quiet (fail)
          go_wp2_with fail
          go_ret2
          exact ⟨by simp only [HA.out, HI2.out]; rfl, _, rfl⟩
        · have de := strEq_false he
          have HI2 : Hid (isF S x = false) := Lib.hid (by rw [HI.out, decide_eq_false he])
          clear he HLO
          go_upto_region 4 with (fail)
          go_quiet (fail)
          go_wp2_with fail
          go_ret2
          exact ⟨by simp only [HA.out, HI2.out]; rfl, _, rfl⟩
      · have HB : Hid (bLt S[k].name x) := Lib.hid hb
        go_wp2_with fail
        go_round
        case rel => exact ⟨k + 1, by omega, by go_num, fun j f hj hf => by
          by_cases e : j = k
          · subst e
            rw [List.getElem?_eq_getElem hlt] at hf
            injection hf with hf
            subst hf
            exact HB.out
          · exact HLO.out j f (by omega) hf⟩
        case measure => simp [RowKit.intOf]; omega
    · have hkd : k = S.length := by omega
      subst hkd
      have HA : Hid (aheadF S x = S.length) := Lib.hid (aheadF_eq (Nat.le_refl _) HLO.out (fun f hf => by simp at hf))
      have HI : Hid (isF S x = false) := Lib.hid (by unfold isF; rw [HA.out, List.getElem?_eq_none (Nat.le_refl _)])
      have dlt : decide ((S.length : Int) < (S.length : Int)) = false := decide_eq_false (by omega)
      clear HLO hlt
      go_upto_region 4 with (fail)
      go_quiet (fail)
      go_wp2_with fail
      go_ret2
      exact ⟨by simp only [HA.out, HI.out]; rfl, _, rfl⟩

set_option maxHeartbeats 1000000 in
theorem msynced_drew (w : World) (m : Nat) (room : Int) (S : List Fl) (F : Nat → Prop) (h : MdAt w m room S F) (hl : S.length ≤ 1000000) (x : ByteArray) :
    Calls Tryz.prog 36 #[.pointer (some ⟨m, 0, none⟩), .string x] w fun e w' => e = .returned (.int .i64 (match fdS S x with | none => 0 | some f => f.syn)) ∧ ∃ n, w' = w.drewN n := by
  have hfind := find_drew w m room S F h x hl
  have H := Lib.hid h
  unfold fdS
  have hal := aheadF_le S x
  cases hx : isF S x
  · rw [hx] at hfind
    have HF := Lib.hid hfind
    rw [if_neg (by decide)]
    clear hfind hx
    go_enter Tryz.func36, Tryz.ntmps36
    go_wp2_with fail
    refine HF.out.mono ?_
    rintro e w1 ⟨rfl, nf, hwf⟩
    have hB : Below w.heap.size w w1 := by rw [hwf]; exact ⟨rfl, rfl, rfl, Nat.le_refl _, fun _ _ => rfl⟩
    have HWF := Lib.hid hwf
    clear hwf
    go_wp2_with fail
    go_ret
    exact ⟨rfl, nf, HWF.out⟩
  · obtain ⟨hk, hn⟩ := isF_yes hx
    rw [hx] at hfind
    rw [if_pos rfl, List.getElem?_eq_getElem hk]
    generalize aheadF S x = k at hk hn hfind hal ⊢
    have HF := Lib.hid hfind
    clear hfind hx hn
    go_enter Tryz.func36, Tryz.ntmps36
    go_wp2_with fail
    refine HF.out.mono ?_
    rintro e w1 ⟨rfl, nf, hwf⟩
    have hB : Below w.heap.size w w1 := by rw [hwf]; exact ⟨rfl, rfl, rfl, Nat.le_refl _, fun _ _ => rfl⟩
    have HWF := Lib.hid hwf
    clear hwf
    obtain ⟨v, h1⟩ := H.out.fresh hB
    obtain ⟨A, c, rfl, hc1, hc2⟩ := h1.row.shape_ (n := S.length) rfl
    unfold maxLen at hc2
    have c0 := h1.c0
    obtain ⟨b, o, rfl, _, _, hxx⟩ := (h1.row.sl elFl.len).cell_ hk
    have x2 := hxx 2 _ rfl
    have HB := Lib.hid hB
    clear hxx h1 hB
    go_wp2_with fail
    go_ret
    exact ⟨rfl, nf, HWF.out⟩
end Go.Proofs.YthdehdlbocgfaaaGreatDoor
