/- A still walk by the quiet one. Proved for every program; no condition. -/
import Derived.Test.YthdcnknjjbdefaaGreatDoorBlR
import Derived.BigQuiet
namespace Go.Bl

theorem still_op {P : Program} {o : Oper} {a : Act} {w : World} {K : Act → Prop} (hh : o.quiet P a (fun w' => w' = w) K) : o.still P a w K := by
  obtain ⟨v, h1, h2⟩ := hh
  have h3 := h1 w rfl
  unfold Oper.quietAt at h3
  unfold Oper.still
  generalize (execOp a.eval o).run P w = r at *
  cases r with
  | ok n w' =>
    cases n <;> simp only [Oper.quietUpon] at h3 <;> simp only [Oper.stillUpon]
    case value u =>
      obtain ⟨e1, e2⟩ := h3
      rw [e1, e2]
      exact ⟨rfl, h2⟩
    case skip =>
      obtain ⟨e1, e2⟩ := h3
      rw [e1, ← e2]
      exact ⟨rfl, h2⟩
    case enter f args =>
      obtain ⟨e1, hc⟩ := h3
      exact ⟨e1, v, hc, h2⟩
  | halt x w' => simp only [Oper.quietUpon] at h3
theorem still_of_quiet {P : Program} {ops : Array Oper} {w : World} {Q : Act → Prop} : ∀ {l : List Oper} {a : Act}, wpQuiet P ops (fun w' => w' = w) Q l a → wpStill P ops w Q l a
  | [], _, h => h
  | o :: rest, a, h => by
    unfold wpQuiet at h
    unfold wpStill
    split
    · rename_i hw
      rw [if_pos hw] at h
      obtain ⟨v, h1, h2⟩ := h
      exact still_op ⟨v, h1, still_of_quiet h2⟩
    · rename_i hw
      rw [if_neg hw] at h
      exact still_of_quiet h
end Go.Bl
