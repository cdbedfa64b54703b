/- RecordBack: the given statement. -/
import Derived.Test.YtimfoijajafdpaaDoorRows
import Derived.Test.YtimfoijajafdpaaDoorCodZ
import Derived.Test.YtimfoijajafdpaaDoorRecO
import Derived.Test.YtimfoijajafdpaaDoorTie
import Derived.Test.YtimfoijajafdpaaDoorCards
import Derived.SevenTiedAt
namespace Go.Proofs.YtimfoijajafdpaaDoor
open Go.ChangeShapes Go.WideShapes Go.ChangeAt Go.RowKit Go.Bl

theorem recordBack_witness (os : Os) {H : Type} (enc : TypeId × Value → H) : (OpenSpec.ofChange Rows.recordBackSpec).preRow enc Tryd.prog Tryd.f7 [] false [("unicode/utf8.acceptRanges", Rows.laid_unicode_utf8_acceptRanges), ("unicode/utf8.first", Rows.laid_unicode_utf8_first)] ((laidWorld os).forCall (fun _ _ => 0) ⟨#[], #[.slice none 0 0, .string ⟨#[]⟩], []⟩).memory #[.slice none 0 0, .string ⟨#[]⟩] :=
  OpenSpec.preRow_of_B rfl 8 (by kernel_rfl) (by kernel_rfl) (laid_met os _)

set_option maxRecDepth 100000 in
theorem recordBack_lifted (os : Os) (started : os.Started) (H : Type) (enc : TypeId × Value → H) (F : Stop.Interp) :
    ReturnsInHanded {} Tryd.checked os 7 .any ((OpenSpec.ofChange Rows.recordBackSpec).preRow enc Tryd.prog Tryd.f7 Rows.recordBackRow.domain false Rows.recordBackRow.laid) (((OpenSpec.ofChange Rows.recordBackSpec).at F).post enc Tryd.prog Tryd.f7 false true false false) := by
  refine law_row (C := Tryd.checked) own started (by kernel_rfl) Tryd.func7
    (witness_row_atRef (enc := enc) (C := Tryd.checked) false (laidWorld os) #[.slice none 0 0, .string ⟨#[]⟩] rfl (by kernel_rfl) (by kernel_rfl) (by kernel_rfl) (recordBack_witness os enc))
    laidOut (by kernel_rfl) (by kernel_rfl) Tryd.underlying4 rfl (fun ds h => by match ds, h with | [_, _], _ => rfl) ?_
  intro W base args ds p hval0 hA0 hz0 hL
  have hT := tabs_of_laid hL
  have hval : ∀ (j : Nat) t v, Tryd.f7.params[j]? = some t → args[j]? = some v → Value.okWide Tryd.prog W .any base t v := hval0
  have hA : DataW.TrodAll enc Tryd.prog W 0 (fun _ => true) true Tryd.f7.params.toList args.toList ds p := hA0
  have hz : SizedEach Tryd.prog Tryd.f7.params.toList ds := hz0
  rw [Tryd.params7] at hA hval hz
  obtain ⟨v0, v1, d0, d1, p0, p1, rfl, rfl, rfl, h0, h1⟩ := trodAll_two hA
  obtain ⟨⟨w0, l⟩, rfl, q0⟩ := arg_one (opEntries W) h0 (fun n hn => hz n (by simp only [DataW.weightsEach, List.mem_append]; exact .inl hn)) (hval 0 24 v0 rfl rfl) (by simp [Tryd.underlying24]) (by simp [Tryd.underlying24])
  obtain ⟨more, rfl, q1⟩ := arg_one (opStr W) h1 (fun n hn => hz n (by simp only [DataW.weightsEach, List.mem_append]; exact .inr (.inl hn))) (hval 1 9 v1 rfl rfl) (by simp [Tryd.underlying9]) (by simp [Tryd.underlying9])
  exact back_any W hT (fun b => b < W.heap.size) v0 l ⟨q0.1, q0.2.1⟩ more q1

theorem recordBack_row : Rows.RecordBackSaid :=
  OpenClaim.holds_of_cond 7 Tryd.f7 rfl rfl rfl rfl rfl rfl rfl ⟨rfl, rfl, rfl, rfl, rfl⟩ rfl rfl rfl rfl rfl (by kernel_rfl) Tryd.func7 (by kernel_rfl)
    (of_decide_eq_true (by kernel_rfl)) (by unfold Func.isWrapper; first | (rw [if_pos (by decide +kernel)]; kernel_rfl) | (rw [if_neg (by decide +kernel)]; exact ⟨rfl, rfl⟩))
    (fun os started H enc _ F0 => by rw [OpenClaim.pre_eq_preRow]; exact recordBack_lifted os started H enc F0)

theorem recordBack_holds : Rows.RecordBackCardSaid :=
  Claim7.holds_tied_plain_at .later [] [.data, .pinned] true Rows.recordBackCard.stood.harness Rows.recordBackCard.stood.looks
    recordBack_row (fun _ h => by cases h) (by kernel_rfl) (fun _ h => by cases h) recordBack_row_tie rfl ⟨rfl, rfl⟩ (by kernel_rfl) rfl
    (fun f fn hf hfn => by
      obtain rfl : f = 7 := (Option.some.inj ((show Tryd.prog.funcNamed "bucketline/bucketlinelaw6.RecordBack" = some 7 by kernel_rfl).symm.trans hf)).symm
      obtain rfl : fn = Tryd.f7 := (Option.some.inj (Tryd.func7.symm.trans hfn)).symm
      refine ⟨by kernel_rfl, fun j t ht => ?_⟩
      rw [Tryd.params7] at ht
      have hall : (#[24, 9] : Array TypeId).all (fun t => Tryd.prog.wantsStandIn t == false) = true := by kernel_rfl
      obtain ⟨hj, e⟩ := Array.getElem?_eq_some_iff.1 ht
      have := (Array.all_eq_true.1 hall) j hj
      rw [e] at this
      have h9 : Tryd.prog.wantsStandIn t = false := by simpa using this
      exact h9)
    (by kernel_rfl)
end Go.Proofs.YtimfoijajafdpaaDoor
