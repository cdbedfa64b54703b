/- MasterSilent: the given statement. -/
import Derived.Test.YtoegdpcfhmjnaaaDoorRows
import Derived.Test.YtoegdpcfhmjnaaaDoorMstT
import Derived.Test.YtoegdpcfhmjnaaaDoorDskS
import Derived.Carry
import Derived.Test.YtoegdpcfhmjnaaaDoorTie
import Derived.Test.YtoegdpcfhmjnaaaDoorCards
import Derived.SevenTiedAt
namespace Go.Proofs.YtoegdpcfhmjnaaaDoor
open Go.ChangeShapes Go.WideShapes Go.ChangeAt Go.RowKit Go.Bl

theorem masterSilent_witness (os : Os) {H : Type} (enc : TypeId × Value → H) : (OpenSpec.ofChange Rows.masterSilentSpec).preRow enc Tryd.prog Tryd.f3 [] false [("unicode/utf8.acceptRanges", Rows.laid_unicode_utf8_acceptRanges), ("unicode/utf8.first", Rows.laid_unicode_utf8_first)] ((laidWorld os).forCall (fun _ _ => 0) ⟨#[], #[.slice none 0 0, .int .i64 0, .int .i64 0, .int .i64 0], []⟩).memory #[.slice none 0 0, .int .i64 0, .int .i64 0, .int .i64 0] :=
  OpenSpec.preRow_of_B rfl 8 (by kernel_rfl) (by kernel_rfl) (laid_met os _)

set_option maxRecDepth 100000 in
theorem masterSilent_lifted (os : Os) (started : os.Started) (H : Type) (enc : TypeId × Value → H) (F : Stop.Interp) :
    ReturnsInHanded {} Tryd.checked os 3 .any ((OpenSpec.ofChange Rows.masterSilentSpec).preRow enc Tryd.prog Tryd.f3 Rows.masterSilentRow.domain false Rows.masterSilentRow.laid) (((OpenSpec.ofChange Rows.masterSilentSpec).at F).post enc Tryd.prog Tryd.f3 false true false false) := by
  refine law_row (C := Tryd.checked) own started (by kernel_rfl) Tryd.func3
    (witness_row_atRef (enc := enc) (C := Tryd.checked) false (laidWorld os) #[.slice none 0 0, .int .i64 0, .int .i64 0, .int .i64 0] rfl (by kernel_rfl) (by kernel_rfl) (by kernel_rfl) (masterSilent_witness os enc))
    laidOut (by kernel_rfl) (by kernel_rfl) Tryd.underlying4 rfl (fun ds h => by match ds, h with | [_, _, _, _], _ => rfl) ?_
  intro W base args ds p hval0 hA0 hz0 hL
  have hT := tabs_of_laid hL
  have hval : ∀ (j : Nat) t v, Tryd.f3.params[j]? = some t → args[j]? = some v → Value.okWide Tryd.prog W .any base t v := hval0
  have hA : DataW.TrodAll enc Tryd.prog W 0 (fun _ => true) true Tryd.f3.params.toList args.toList ds p := hA0
  have hz : SizedEach Tryd.prog Tryd.f3.params.toList ds := hz0
  rw [Tryd.params3] at hA hval hz
  obtain ⟨v0, v1, v2, v3, d0, d1, d2, d3, p0, p1, p2, p3, rfl, rfl, rfl, h0, h1, h2, h3⟩ := trodAll_four hA
  obtain ⟨⟨w0, first⟩, rfl, q0⟩ := arg_one (opInts W) h0 (fun n hn => hz n (by simp only [DataW.weightsEach, List.mem_append]; exact .inl hn)) (hval 0 22 v0 rfl rfl) (by simp [Tryd.underlying22]) (by simp [Tryd.underlying22])
  obtain ⟨fail, rfl, q1⟩ := arg_one (opInt W) h1 (fun n hn => hz n (by simp only [DataW.weightsEach, List.mem_append]; exact .inr (.inl hn))) (hval 1 3 v1 rfl rfl) (by simp [Tryd.underlying3]) (by simp [Tryd.underlying3])
  obtain ⟨who, rfl, q2⟩ := arg_one (opInt W) h2 (fun n hn => hz n (by simp only [DataW.weightsEach, List.mem_append]; exact .inr (.inr (.inl hn)))) (hval 2 3 v2 rfl rfl) (by simp [Tryd.underlying3]) (by simp [Tryd.underlying3])
  obtain ⟨rounds, rfl, q3⟩ := arg_one (opInt W) h3 (fun n hn => hz n (by simp only [DataW.weightsEach, List.mem_append]; exact .inr (.inr (.inr (.inl hn))))) (hval 3 3 v3 rfl rfl) (by simp [Tryd.underlying3]) (by simp [Tryd.underlying3])
  exact silent_law W hT v0 first q0.1 fail who rounds q2 q3

theorem masterSilent_row : Rows.MasterSilentSaid :=
  OpenClaim.holds_of_cond 3 Tryd.f3 rfl rfl rfl rfl rfl rfl rfl ⟨rfl, rfl, rfl, rfl, rfl⟩ rfl rfl rfl rfl rfl (by kernel_rfl) Tryd.func3 (by kernel_rfl)
    (of_decide_eq_true (by kernel_rfl)) (by unfold Func.isWrapper; first | (rw [if_pos (by decide +kernel)]; kernel_rfl) | (rw [if_neg (by decide +kernel)]; exact ⟨rfl, rfl⟩))
    (fun os started H enc _ F0 => by rw [OpenClaim.pre_eq_preRow]; exact masterSilent_lifted os started H enc F0)

theorem masterSilent_holds : Rows.MasterSilentCardSaid :=
  Claim7.holds_tied_plain_at .later [] [.data, .pinned] true Rows.masterSilentCard.stood.harness Rows.masterSilentCard.stood.looks
    masterSilent_row (fun _ h => by cases h) (by kernel_rfl) (fun _ h => by cases h) masterSilent_row_tie rfl ⟨rfl, rfl⟩ (by kernel_rfl) rfl
    (fun f fn hf hfn => by
      obtain rfl : f = 3 := (Option.some.inj ((show Tryd.prog.funcNamed "bucketline/bucketlinelaw19.MasterSilent" = some 3 by kernel_rfl).symm.trans hf)).symm
      obtain rfl : fn = Tryd.f3 := (Option.some.inj (Tryd.func3.symm.trans hfn)).symm
      refine ⟨by kernel_rfl, fun j t ht => ?_⟩
      rw [Tryd.params3] at ht
      have hall : (#[22, 3, 3, 3] : Array TypeId).all (fun t => Tryd.prog.wantsStandIn t == false) = true := by kernel_rfl
      obtain ⟨hj, e⟩ := Array.getElem?_eq_some_iff.1 ht
      have := (Array.all_eq_true.1 hall) j hj
      rw [e] at this
      have h9 : Tryd.prog.wantsStandIn t = false := by simpa using this
      exact h9)
    (by kernel_rfl)
end Go.Proofs.YtoegdpcfhmjnaaaDoor
