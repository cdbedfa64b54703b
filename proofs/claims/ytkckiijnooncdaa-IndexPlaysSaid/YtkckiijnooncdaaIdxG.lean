/- IndexCuts: the given statement. -/
import Derived.Test.YtkckiijnooncdaaRows
import Derived.Test.YtkckiijnooncdaaIdxF
import Derived.Test.YtkckiijnooncdaaBlC
namespace Go.Proofs.Ytkckiijnooncdaa
open Go.ChangeShapes Go.WideShapes Go.ChangeAt Go.RowKit Go.Bl

theorem opStr (W : World) : Opens Try.prog W 9 (fun s : ByteArray => [.string s]) (fun s => s.size ≤ 140737488351232) := Opens.string Try.underlying9
theorem opInt (W : World) : Opens Try.prog W 3 (fun n : Int => [.int .i64 n]) (fun n => -9223372036854775808 ≤ n ∧ n ≤ 9223372036854775807) := Opens.int Try.underlying3
theorem opEv (W : World) : Opens Try.prog W 41 evc (fun e => e.kind.size ≤ 140737488351232 ∧ e.data.size ≤ 140737488351232) :=
  (Opens.struct Try.underlying41 (by kernel_rfl) (OpensFs.one (opStr W) rfl (by kernel_rfl) (OpensFs.one (opStr W) rfl (by kernel_rfl) OpensFs.nil))).as (fun p => ⟨p.1, p.2.1⟩) (fun _ h => ⟨rfl, h.1, h.2.1⟩)
theorem opEvs (W : World) : Opens Try.prog W 28 (fun p : Value × List Ev => [p.1]) (sliceC Try.prog W 41 2 evc (fun e => e.kind.size ≤ 140737488351232 ∧ e.data.size ≤ 140737488351232)) := Opens.slice Try.underlying28 (by kernel_rfl) (by decide) (opEv W)
def AcC (W : World) (a : Ac) : Prop := Sl W (fun b => b < W.heap.size) 2 evc a.evv a.evs ∧ a.stream.size ≤ 140737488355328 ∧ ∀ e ∈ a.evs, e.kind.size ≤ 140737488355328 ∧ e.data.size ≤ 140737488355328
theorem opAc (W : World) : Opens Try.prog W 30 acc (AcC W) :=
  (Opens.struct Try.underlying30 (by kernel_rfl) (OpensFs.one (opInt W) rfl (by kernel_rfl) (OpensFs.one (opInt W) rfl (by kernel_rfl) (OpensFs.one (opInt W) rfl (by kernel_rfl)
    (OpensFs.one (opStr W) rfl (by kernel_rfl) (OpensFs.one (opEvs W) rfl (by kernel_rfl) OpensFs.nil)))))).as (fun p => ⟨p.1, p.2.1, p.2.2.1, p.2.2.2.1, p.2.2.2.2.1.1, p.2.2.2.2.1.2⟩)
    (fun _ h => ⟨rfl, h.2.2.2.2.1.1, Nat.le_trans h.2.2.2.1 (by decide), fun e he => ⟨Nat.le_trans (h.2.2.2.2.1.2.1 e he).1 (by decide), Nat.le_trans (h.2.2.2.2.1.2.1 e he).2 (by decide)⟩⟩)
theorem opActs (W : World) : Opens Try.prog W 22 (fun p : Value × List Ac => [p.1]) (sliceC Try.prog W 30 5 acc (AcC W)) := Opens.slice Try.underlying22 (by kernel_rfl) (by decide) (opAc W)

theorem own : ownKnob Try.prog.godebug = none := by kernel_rfl
theorem laidOut : laidOutB Try.prog = true := by kernel_rfl

set_option maxRecDepth 100000 in
theorem cuts_lifted (os : Os) (started : os.Started) (H : Type) (enc : TypeId × Value → H) :
    ReturnsInHanded {} Try.checked os 3 .any (Rows.indexCutsSpec.pre6 enc Try.prog Try.f3 Rows.indexCutsRow.domain false) (Rows.indexCutsSpec.post enc Try.prog Try.f3 false true false false) := by
  refine law_lifted (C := Try.checked) own started (by kernel_rfl) Try.func3
    (ChangeSpec.witness6 (enc := enc) (C := Try.checked) false ⟨#[], #[.slice none 0 0, .string .empty, .int .i64 0], []⟩ 8 (by kernel_rfl) (by kernel_rfl) (by kernel_rfl) (by kernel_rfl))
    laidOut (by kernel_rfl) (by kernel_rfl) Try.underlying4 rfl (fun ds h => by match ds, h with | [_, _, _], _ => rfl) ?_
  intro W base args ds p hval0 hA0 hz0
  have hval : ∀ (j : Nat) t v, Try.f3.params[j]? = some t → args[j]? = some v → Value.okWide Try.prog W .any base t v := hval0
  have hA : DataW.TrodAll enc Try.prog W 0 (fun _ => true) true Try.f3.params.toList args.toList ds p := hA0
  have hz : SizedEach Try.prog Try.f3.params.toList ds := hz0
  rw [Try.params3] at hA hval hz
  obtain ⟨v0, v1, v2, d0, d1, d2, p0, p1, p2, rfl, rfl, rfl, h0, h1, h2⟩ := trodAll_three hA
  obtain ⟨⟨w0, l⟩, rfl, hl⟩ := arg_one (opActs W) h0 (fun n hn => hz n (by simp only [DataW.weightsEach, List.mem_append]; exact .inl hn)) (hval 0 22 v0 rfl rfl) (by simp [Try.underlying22]) (by simp [Try.underlying22])
  obtain ⟨s, rfl, hs⟩ := arg_one (opStr W) h1 (fun n hn => hz n (by simp only [DataW.weightsEach, List.mem_append]; exact .inr (.inl hn))) (hval 1 9 v1 rfl rfl) (by simp [Try.underlying9]) (by simp [Try.underlying9])
  obtain ⟨n, rfl, hn⟩ := arg_one (opInt W) h2 (fun n hn => hz n (by simp only [DataW.weightsEach, List.mem_append]; exact .inr (.inr (.inl hn)))) (hval 2 3 v2 rfl rfl) (by simp [Try.underlying3]) (by simp [Try.underlying3])
  exact cuts_any W (fun b => b < W.heap.size) v0 l ⟨hl.1, hl.2.1⟩ (fun _ h => h) s (by omega) n

theorem cuts_holds : Rows.IndexCutsSaid :=
  OpenClaim.holds_of_wide 3 Try.f3 rfl rfl rfl rfl rfl rfl rfl ⟨rfl, rfl, rfl, rfl, rfl⟩ rfl rfl rfl rfl rfl (by kernel_rfl) Try.func3 (by kernel_rfl)
    (of_decide_eq_true (by kernel_rfl)) (by unfold Func.isWrapper; first | (rw [if_pos (by decide +kernel)]; kernel_rfl) | (rw [if_neg (by decide +kernel)]; exact ⟨rfl, rfl⟩))
    (fun os started H enc _ => cuts_lifted os started H enc)
end Go.Proofs.Ytkckiijnooncdaa
