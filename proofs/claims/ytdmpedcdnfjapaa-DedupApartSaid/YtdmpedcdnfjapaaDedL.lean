/- DedupApart: the given statement. -/
import Derived.Test.YtdmpedcdnfjapaaRows
import Derived.Test.YtdmpedcdnfjapaaDedK
namespace Go.Proofs.Ytdmpedcdnfjapaa
open Go.ChangeShapes Go.WideShapes Go.ChangeAt Go.RowKit Go.Bl

set_option maxRecDepth 100000 in
theorem dedupApart_lifted (os : Os) (started : os.Started) (H : Type) (enc : TypeId × Value → H) :
    ReturnsInHanded {} Try.checked os 5 .any (Rows.dedupApartSpec.pre6 enc Try.prog Try.f5 Rows.dedupApartRow.domain false) (Rows.dedupApartSpec.post enc Try.prog Try.f5 false true false false) := by
  refine law_lifted (C := Try.checked) own started (by kernel_rfl) Try.func5
    (ChangeSpec.witness6 (enc := enc) (C := Try.checked) false ⟨#[], #[.slice none 0 0, .int .i64 0], []⟩ 8 (by kernel_rfl) (by kernel_rfl) (by kernel_rfl) (by kernel_rfl))
    laidOut (by kernel_rfl) (by kernel_rfl) Try.underlying4 rfl (fun ds h => by match ds, h with | [_, _], _ => rfl) ?_
  intro W base args ds p hval0 hA0 hz0
  have hval : ∀ (j : Nat) t v, Try.f5.params[j]? = some t → args[j]? = some v → Value.okWide Try.prog W .any base t v := hval0
  have hA : DataW.TrodAll enc Try.prog W 0 (fun _ => true) true Try.f5.params.toList args.toList ds p := hA0
  have hz : SizedEach Try.prog Try.f5.params.toList ds := hz0
  rw [Try.params5] at hA hval hz
  obtain ⟨v0, v1, d0, d1, p0, p1, rfl, rfl, rfl, h0, h1⟩ := trodAll_two hA
  obtain ⟨⟨w1, l⟩, rfl, q0⟩ := arg_one (opActs W) h0 (fun n hn => hz n (by simp only [DataW.weightsEach, List.mem_append]; exact .inl hn)) (hval 0 22 v0 rfl rfl) (by simp [Try.underlying22]) (by simp [Try.underlying22])
  obtain ⟨s, rfl, q1⟩ := arg_one (opInt W) h1 (fun n hn => hz n (by simp only [DataW.weightsEach, List.mem_append]; exact .inr (.inl hn))) (hval 1 3 v1 rfl rfl) (by simp [Try.underlying3]) (by simp [Try.underlying3])
  exact apart_any W (fun b => b < W.heap.size) _ l s q0.1 q0.2.1 q1

theorem dedupApart_holds : Rows.DedupApartSaid :=
  OpenClaim.holds_of_wide 5 Try.f5 rfl rfl rfl rfl rfl rfl rfl ⟨rfl, rfl, rfl, rfl, rfl⟩ rfl rfl rfl rfl rfl (by kernel_rfl) Try.func5 (by kernel_rfl)
    (of_decide_eq_true (by kernel_rfl)) (by unfold Func.isWrapper; first | (rw [if_pos (by decide +kernel)]; kernel_rfl) | (rw [if_neg (by decide +kernel)]; exact ⟨rfl, rfl⟩))
    (fun os started H enc _ => dedupApart_lifted os started H enc)
end Go.Proofs.Ytdmpedcdnfjapaa
