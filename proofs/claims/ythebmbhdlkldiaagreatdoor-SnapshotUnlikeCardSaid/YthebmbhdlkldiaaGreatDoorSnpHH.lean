/- SnapshotUnlike: the given statement. -/
import Derived.Test.YthebmbhdlkldiaaGreatDoorRows
import Derived.Test.YthebmbhdlkldiaaGreatDoorSnpH
import Derived.Test.YthebmbhdlkldiaaGreatDoorRecO
import Derived.Test.YthebmbhdlkldiaaGreatDoorTie
import Derived.Test.YthebmbhdlkldiaaGreatDoorCards
import Derived.SevenTiedAt
namespace Go.Proofs.YthebmbhdlkldiaaGreatDoor
open Go.ChangeShapes Go.WideShapes Go.ChangeAt Go.RowKit Go.Bl

theorem snapshotUnlike_witness (os : Os) {H : Type} (enc : TypeId × Value → H) : (OpenSpec.ofChange Rows.snapshotUnlikeSpec).preRow enc Tryz.prog Tryz.f5 [] false [("unicode/utf8.acceptRanges", Rows.laid_unicode_utf8_acceptRanges), ("unicode/utf8.first", Rows.laid_unicode_utf8_first)] ((laidWorld os).forCall (fun _ _ => 0) ⟨#[], #[.slice none 0 0, .int .i64 0], []⟩).memory #[.slice none 0 0, .int .i64 0] :=
  OpenSpec.preRow_of_B rfl 8 (by kernel_rfl) (by kernel_rfl) (laid_met os _)

set_option maxRecDepth 100000 in
theorem snapshotUnlike_lifted (os : Os) (started : os.Started) (H : Type) (enc : TypeId × Value → H) (F : Stop.Interp) :
    ReturnsInHanded {} Tryz.checked os 5 .any ((OpenSpec.ofChange Rows.snapshotUnlikeSpec).preRow enc Tryz.prog Tryz.f5 Rows.snapshotUnlikeRow.domain false Rows.snapshotUnlikeRow.laid) (((OpenSpec.ofChange Rows.snapshotUnlikeSpec).at F).post enc Tryz.prog Tryz.f5 false true false false) := by
  refine law_row (C := Tryz.checked) own started (by kernel_rfl) Tryz.func5
    (witness_row_atRef (enc := enc) (C := Tryz.checked) false (laidWorld os) #[.slice none 0 0, .int .i64 0] rfl (by kernel_rfl) (by kernel_rfl) (by kernel_rfl) (snapshotUnlike_witness os enc))
    laidOut (by kernel_rfl) (by kernel_rfl) Tryz.underlying4 rfl (fun ds h => by match ds, h with | [_, _], _ => rfl) ?_
  intro W base args ds p hval0 hA0 hz0 hL
  have hT := tabs_of_laid hL
  have hval : ∀ (j : Nat) t v, Tryz.f5.params[j]? = some t → args[j]? = some v → Value.okWide Tryz.prog W .any base t v := hval0
  have hA : DataW.TrodAll enc Tryz.prog W 0 (fun _ => true) true Tryz.f5.params.toList args.toList ds p := hA0
  have hz : SizedEach Tryz.prog Tryz.f5.params.toList ds := hz0
  rw [Tryz.params5] at hA hval hz
  obtain ⟨v0, v1, d0, d1, p0, p1, rfl, rfl, rfl, h0, h1⟩ := trodAll_two hA
  obtain ⟨⟨v0, l⟩, rfl, q0⟩ := arg_one (opEntries W) h0 (fun n hn => hz n (by simp only [DataW.weightsEach, List.mem_append]; exact .inl hn)) (hval 0 22 v0 rfl rfl) (by simp [Tryz.underlying22]) (by simp [Tryz.underlying22])
  obtain ⟨raw, rfl, q1⟩ := arg_one (opInt W) h1 (fun n hn => hz n (by simp only [DataW.weightsEach, List.mem_append]; exact .inr (.inl hn))) (hval 1 3 v1 rfl rfl) (by simp [Tryz.underlying3]) (by simp [Tryz.underlying3])
  exact unlike_any W hT v0 l ⟨q0.1, q0.2.1⟩ raw q1

theorem snapshotUnlike_row : Rows.SnapshotUnlikeSaid :=
  OpenClaim.holds_of_cond 5 Tryz.f5 rfl rfl rfl rfl rfl rfl rfl ⟨rfl, rfl, rfl, rfl, rfl⟩ rfl rfl rfl rfl rfl (by kernel_rfl) Tryz.func5 (by kernel_rfl)
    (of_decide_eq_true (by kernel_rfl)) (by unfold Func.isWrapper; first | (rw [if_pos (by decide +kernel)]; kernel_rfl) | (rw [if_neg (by decide +kernel)]; exact ⟨rfl, rfl⟩))
    (fun os started H enc _ F0 => by rw [OpenClaim.pre_eq_preRow]; exact snapshotUnlike_lifted os started H enc F0)

theorem snapshotUnlike_holds : Rows.SnapshotUnlikeCardSaid :=
  Claim7.holds_tied_plain_at .later [] [.data, .pinned] true Rows.snapshotUnlikeCard.stood.harness Rows.snapshotUnlikeCard.stood.looks
    snapshotUnlike_row (fun _ h => by cases h) (by kernel_rfl) (fun _ h => by cases h) snapshotUnlike_row_tie rfl ⟨rfl, rfl⟩ (by kernel_rfl) rfl
    (fun f fn hf hfn => by
      obtain rfl : f = 5 := (Option.some.inj ((show Tryz.prog.funcNamed "bucketline/bucketlinelaw16.SnapshotUnlike" = some 5 by kernel_rfl).symm.trans hf)).symm
      obtain rfl : fn = Tryz.f5 := (Option.some.inj (Tryz.func5.symm.trans hfn)).symm
      refine ⟨by kernel_rfl, fun j t ht => ?_⟩
      rw [Tryz.params5] at ht
      have hall : (#[22, 3] : Array TypeId).all (fun t => Tryz.prog.wantsStandIn t == false) = true := by kernel_rfl
      obtain ⟨hj, e⟩ := Array.getElem?_eq_some_iff.1 ht
      have := (Array.all_eq_true.1 hall) j hj
      rw [e] at this
      have h9 : Tryz.prog.wantsStandIn t = false := by simpa using this
      exact h9)
    (by kernel_rfl)
end Go.Proofs.YthebmbhdlkldiaaGreatDoor
