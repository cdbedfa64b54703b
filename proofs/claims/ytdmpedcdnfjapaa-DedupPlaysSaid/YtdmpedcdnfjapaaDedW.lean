/- DedupPlays: the given statement. -/
import Derived.Test.YtdmpedcdnfjapaaRows
import Derived.Test.YtdmpedcdnfjapaaDedV
namespace Go.Proofs.Ytdmpedcdnfjapaa
open Go.ChangeShapes Go.WideShapes Go.ChangeAt Go.RowKit Go.Bl

set_option maxRecDepth 100000 in
theorem dedupPlays_lifted (os : Os) (started : os.Started) (H : Type) (enc : TypeId × Value → H) :
    ReturnsInHanded {} Try.checked os 7 .any (Rows.dedupPlaysSpec.pre6 enc Try.prog Try.f7 Rows.dedupPlaysRow.domain false) (Rows.dedupPlaysSpec.post enc Try.prog Try.f7 false true false false) := by
  refine law_lifted (C := Try.checked) own started (by kernel_rfl) Try.func7
    (ChangeSpec.witness6 (enc := enc) (C := Try.checked) false ⟨#[], #[.slice none 0 0, .int .i64 0, .int .i64 0], []⟩ 8 (by kernel_rfl) (by kernel_rfl) (by kernel_rfl) (by kernel_rfl))
    laidOut (by kernel_rfl) (by kernel_rfl) Try.underlying4 rfl (fun ds h => by match ds, h with | [_, _, _], _ => rfl) ?_
  intro W base args ds p hval0 hA0 hz0
  have hval : ∀ (j : Nat) t v, Try.f7.params[j]? = some t → args[j]? = some v → Value.okWide Try.prog W .any base t v := hval0
  have hA : DataW.TrodAll enc Try.prog W 0 (fun _ => true) true Try.f7.params.toList args.toList ds p := hA0
  have hz : SizedEach Try.prog Try.f7.params.toList ds := hz0
  rw [Try.params7] at hA hval hz
  obtain ⟨v0, v1, v2, d0, d1, d2, p0, p1, p2, rfl, rfl, rfl, h0, h1, h2⟩ := trodAll_three hA
  obtain ⟨⟨w1, l⟩, rfl, q0⟩ := arg_one (opActs W) h0 (fun n hn => hz n (by simp only [DataW.weightsEach, List.mem_append]; exact .inl hn)) (hval 0 22 v0 rfl rfl) (by simp [Try.underlying22]) (by simp [Try.underlying22])
  obtain ⟨n, rfl, q1⟩ := arg_one (opInt W) h1 (fun n hn => hz n (by simp only [DataW.weightsEach, List.mem_append]; exact .inr (.inl hn))) (hval 1 3 v1 rfl rfl) (by simp [Try.underlying3]) (by simp [Try.underlying3])
  obtain ⟨s, rfl, q2⟩ := arg_one (opInt W) h2 (fun n hn => hz n (by simp only [DataW.weightsEach, List.mem_append]; exact .inr (.inr (.inl hn)))) (hval 2 3 v2 rfl rfl) (by simp [Try.underlying3]) (by simp [Try.underlying3])
  exact plays_any W (fun b => b < W.heap.size) _ l n s q0.1 q0.2.1 q1 q2

theorem dedupPlays_holds : Rows.DedupPlaysSaid :=
  OpenClaim.holds_of_wide 7 Try.f7 rfl rfl rfl rfl rfl rfl rfl ⟨rfl, rfl, rfl, rfl, rfl⟩ rfl rfl rfl rfl rfl (by kernel_rfl) Try.func7 (by kernel_rfl)
    (of_decide_eq_true (by kernel_rfl)) (by unfold Func.isWrapper; first | (rw [if_pos (by decide +kernel)]; kernel_rfl) | (rw [if_neg (by decide +kernel)]; exact ⟨rfl, rfl⟩))
    (fun os started H enc _ => dedupPlays_lifted os started H enc)
end Go.Proofs.Ytdmpedcdnfjapaa
