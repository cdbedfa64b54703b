/- NetTurns: the given statement. -/
import Derived.Test.YtnooggfecgidcaaRows
import Derived.Test.YtnooggfecgidcaaNetD
import Derived.Test.YtnooggfecgidcaaBlC
namespace Go.Proofs.Ytnooggfecgidcaa
open Go.ChangeShapes Go.WideShapes Go.ChangeAt Go.RowKit Go.Bl

theorem opStr (W : World) : Opens Try.prog W 9 (fun s : ByteArray => [.string s]) (fun s => s.size ≤ 140737488351232) := Opens.string Try.underlying9
theorem opInt (W : World) : Opens Try.prog W 3 (fun n : Int => [.int .i64 n]) i64 := Opens.int Try.underlying3
theorem opU8 (W : World) : Opens Try.prog W 5 (fun n : Int => [.int .u8 n]) (fun n => 0 ≤ n ∧ n ≤ 255) := Opens.u8 Try.underlying5

theorem own : ownKnob Try.prog.godebug = none := by kernel_rfl
theorem laidOut : laidOutB Try.prog = true := by kernel_rfl

set_option maxRecDepth 100000 in
theorem turns_lifted (os : Os) (started : os.Started) (H : Type) (enc : TypeId × Value → H) :
    ReturnsInHanded {} Try.checked os 3 .any (Rows.netTurnsSpec.pre6 enc Try.prog Try.f3 Rows.netTurnsRow.domain false) (Rows.netTurnsSpec.post enc Try.prog Try.f3 false true false false) := by
  refine law_lifted (C := Try.checked) own started (by kernel_rfl) Try.func3
    (ChangeSpec.witness6 (enc := enc) (C := Try.checked) false ⟨#[], #[.string .empty, .int .i64 0, .int .u8 0], []⟩ 8 (by kernel_rfl) (by kernel_rfl) (by kernel_rfl) (by kernel_rfl))
    laidOut (by kernel_rfl) (by kernel_rfl) Try.underlying4 rfl (fun ds h => by match ds, h with | [_, _, _], _ => rfl) ?_
  intro W base args ds p hval0 hA0 hz0
  have hval : ∀ (j : Nat) t v, Try.f3.params[j]? = some t → args[j]? = some v → Value.okWide Try.prog W .any base t v := hval0
  have hA : DataW.TrodAll enc Try.prog W 0 (fun _ => true) true Try.f3.params.toList args.toList ds p := hA0
  have hz : SizedEach Try.prog Try.f3.params.toList ds := hz0
  rw [Try.params3] at hA hval hz
  obtain ⟨v0, v1, v2, d0, d1, d2, p0, p1, p2, rfl, rfl, rfl, h0, h1, h2⟩ := trodAll_three hA
  obtain ⟨s, rfl, hs⟩ := arg_one (opStr W) h0 (fun n hn => hz n (by simp only [DataW.weightsEach, List.mem_append]; exact .inl hn)) (hval 0 9 v0 rfl rfl) (by simp [Try.underlying9]) (by simp [Try.underlying9])
  obtain ⟨n, rfl, hn⟩ := arg_one (opInt W) h1 (fun n hn => hz n (by simp only [DataW.weightsEach, List.mem_append]; exact .inr (.inl hn))) (hval 1 3 v1 rfl rfl) (by simp [Try.underlying3]) (by simp [Try.underlying3])
  obtain ⟨y, rfl, hy⟩ := arg_one (opU8 W) h2 (fun n hn => hz n (by simp only [DataW.weightsEach, List.mem_append]; exact .inr (.inr (.inl hn)))) (hval 2 5 v2 rfl rfl) (by simp [Try.underlying5]) (by simp [Try.underlying5])
  exact turns_any W s n y (by omega) hy

theorem turns_holds : Rows.NetTurnsSaid :=
  OpenClaim.holds_of_wide 3 Try.f3 rfl rfl rfl rfl rfl rfl rfl ⟨rfl, rfl, rfl, rfl, rfl⟩ rfl rfl rfl rfl rfl (by kernel_rfl) Try.func3 (by kernel_rfl)
    (of_decide_eq_true (by kernel_rfl)) (by unfold Func.isWrapper; first | (rw [if_pos (by decide +kernel)]; kernel_rfl) | (rw [if_neg (by decide +kernel)]; exact ⟨rfl, rfl⟩))
    (fun os started H enc _ => turns_lifted os started H enc)
end Go.Proofs.Ytnooggfecgidcaa
