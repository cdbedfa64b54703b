/- RecordPuts: the given statement. -/
import Derived.Test.YtimfoijajafdpaaDoorRows
import Derived.Test.YtimfoijajafdpaaDoorCodU
import Derived.Test.YtimfoijajafdpaaDoorRecO
import Derived.Test.YtimfoijajafdpaaDoorTie
import Derived.Test.YtimfoijajafdpaaDoorCards
import Derived.SevenTiedAt
namespace Go.Proofs.YtimfoijajafdpaaDoor
open Go.ChangeShapes Go.WideShapes Go.ChangeAt Go.RowKit Go.Bl

theorem recordPuts_witness (os : Os) {H : Type} (enc : TypeId × Value → H) : (OpenSpec.ofChange Rows.recordPutsSpec).preRow enc Tryd.prog Tryd.f6 [] false [("unicode/utf8.acceptRanges", Rows.laid_unicode_utf8_acceptRanges), ("unicode/utf8.first", Rows.laid_unicode_utf8_first)] ((laidWorld os).forCall (fun _ _ => 0) ⟨#[], #[.agg #[.int .i64 0, .int .i64 0, .string ⟨#[]⟩, .int .i64 0, .int .i64 0, .int .i64 0, .slice none 0 0], .slice none 0 0], []⟩).memory #[.agg #[.int .i64 0, .int .i64 0, .string ⟨#[]⟩, .int .i64 0, .int .i64 0, .int .i64 0, .slice none 0 0], .slice none 0 0] :=
  OpenSpec.preRow_of_B rfl 8 (by kernel_rfl) (by kernel_rfl) (laid_met os _)

set_option maxRecDepth 100000 in
theorem recordPuts_lifted (os : Os) (started : os.Started) (H : Type) (enc : TypeId × Value → H) (F : Stop.Interp) :
    ReturnsInHanded {} Tryd.checked os 6 .any ((OpenSpec.ofChange Rows.recordPutsSpec).preRow enc Tryd.prog Tryd.f6 Rows.recordPutsRow.domain false Rows.recordPutsRow.laid) (((OpenSpec.ofChange Rows.recordPutsSpec).at F).post enc Tryd.prog Tryd.f6 false true false false) := by
  refine law_row (C := Tryd.checked) own started (by kernel_rfl) Tryd.func6
    (witness_row_atRef (enc := enc) (C := Tryd.checked) false (laidWorld os) #[.agg #[.int .i64 0, .int .i64 0, .string ⟨#[]⟩, .int .i64 0, .int .i64 0, .int .i64 0, .slice none 0 0], .slice none 0 0] rfl (by kernel_rfl) (by kernel_rfl) (by kernel_rfl) (recordPuts_witness os enc))
    laidOut (by kernel_rfl) (by kernel_rfl) Tryd.underlying4 rfl (fun ds h => by match ds, h with | [_, _], _ => rfl) ?_
  intro W base args ds p hval0 hA0 hz0 hL
  have hT := tabs_of_laid hL
  have hval : ∀ (j : Nat) t v, Tryd.f6.params[j]? = some t → args[j]? = some v → Value.okWide Tryd.prog W .any base t v := hval0
  have hA : DataW.TrodAll enc Tryd.prog W 0 (fun _ => true) true Tryd.f6.params.toList args.toList ds p := hA0
  have hz : SizedEach Tryd.prog Tryd.f6.params.toList ds := hz0
  rw [Tryd.params6] at hA hval hz
  obtain ⟨v0, v1, d0, d1, p0, p1, rfl, rfl, rfl, h0, h1⟩ := trodAll_two hA
  obtain ⟨e, rfl, q0⟩ := arg_agg (opEntry W) h0 (fun n hn => hz n (by simp only [DataW.weightsEach, List.mem_append]; exact .inl hn)) (hval 0 29 v0 rfl rfl) Tryd.underlying29
  obtain ⟨⟨w0, l⟩, rfl, q1⟩ := arg_one (opEntries W) h1 (fun n hn => hz n (by simp only [DataW.weightsEach, List.mem_append]; exact .inr (.inl hn))) (hval 1 24 v1 rfl rfl) (by simp [Tryd.underlying24]) (by simp [Tryd.underlying24])
  exact puts_any W hT (fun b => b < W.heap.size) e q0 v1 l ⟨q1.1, q1.2.1⟩

theorem recordPuts_row : Rows.RecordPutsSaid :=
  OpenClaim.holds_of_cond 6 Tryd.f6 rfl rfl rfl rfl rfl rfl rfl ⟨rfl, rfl, rfl, rfl, rfl⟩ rfl rfl rfl rfl rfl (by kernel_rfl) Tryd.func6 (by kernel_rfl)
    (of_decide_eq_true (by kernel_rfl)) (by unfold Func.isWrapper; first | (rw [if_pos (by decide +kernel)]; kernel_rfl) | (rw [if_neg (by decide +kernel)]; exact ⟨rfl, rfl⟩))
    (fun os started H enc _ F0 => by rw [OpenClaim.pre_eq_preRow]; exact recordPuts_lifted os started H enc F0)

theorem recordPuts_holds : Rows.RecordPutsCardSaid :=
  Claim7.holds_tied_plain_at .later [] [.data, .pinned] true Rows.recordPutsCard.stood.harness Rows.recordPutsCard.stood.looks
    recordPuts_row (fun _ h => by cases h) (by kernel_rfl) (fun _ h => by cases h) recordPuts_row_tie rfl ⟨rfl, rfl⟩ (by kernel_rfl) rfl
    (fun f fn hf hfn => by
      obtain rfl : f = 6 := (Option.some.inj ((show Tryd.prog.funcNamed "bucketline/bucketlinelaw6.RecordPuts" = some 6 by kernel_rfl).symm.trans hf)).symm
      obtain rfl : fn = Tryd.f6 := (Option.some.inj (Tryd.func6.symm.trans hfn)).symm
      refine ⟨by kernel_rfl, fun j t ht => ?_⟩
      rw [Tryd.params6] at ht
      have hall : (#[29, 24] : Array TypeId).all (fun t => Tryd.prog.wantsStandIn t == false) = true := by kernel_rfl
      obtain ⟨hj, e⟩ := Array.getElem?_eq_some_iff.1 ht
      have := (Array.all_eq_true.1 hall) j hj
      rw [e] at this
      have h9 : Tryd.prog.wantsStandIn t = false := by simpa using this
      exact h9)
    (by kernel_rfl)
end Go.Proofs.YtimfoijajafdpaaDoor
