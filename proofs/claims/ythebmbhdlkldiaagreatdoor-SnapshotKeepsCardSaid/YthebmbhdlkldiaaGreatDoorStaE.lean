/- The statements' examples: shown. Under the tables that utf8 lays. -/
import Derived.Test.YthebmbhdlkldiaaGreatDoorStaB
import Derived.Test.YthebmbhdlkldiaaGreatDoorStaD
namespace Go.Proofs.YthebmbhdlkldiaaGreatDoor
open Go.RowKit Go.Bl
attribute [local go_sem ↓] Go.wp_at_zero Go.wp_at_succ

/-- Are two outcomes unlike (alike)? Under names that the walk does not open. -/
def ocNe (a b : Ded.Oc) : Bool := decide (¬ a.code = b.code) || decide (¬ a.pos = b.pos) || decide (¬ a.first = b.first) || decide (¬ a.ver = b.ver)
def ocEq (a b : Ded.Oc) : Bool := !ocNe a b
theorem ocNe_iff {a b : Ded.Oc} : ocNe a b = true ↔ a ≠ b := by
  obtain ⟨a1, a2, a3, a4⟩ := a
  obtain ⟨b1, b2, b3, b4⟩ := b
  simp only [ocNe, Bool.or_eq_true, decide_eq_true_eq, ne_eq, Ded.Oc.mk.injEq]
  constructor
  · rintro h ⟨h1, h2, h3, h4⟩
    omega
  · intro h
    by_cases h1 : a1 = b1 <;> by_cases h2 : a2 = b2 <;> by_cases h3 : a3 = b3 <;> by_cases h4 : a4 = b4 <;> simp_all
theorem ocNe_self (a : Ded.Oc) : ocNe a a = false := by
  cases h : ocNe a a
  · rfl
  · exact absurd rfl (ocNe_iff.1 h)
theorem neqOc (a b c d a' b' c' d' : Int) (w : World) : (binOp .neq 53 (.agg #[.int .i64 a, .int .i64 b, .int .i64 c, .int .i64 d]) (.agg #[.int .i64 a', .int .i64 b', .int .i64 c', .int .i64 d'])).run Tryz.prog w = .ok (.bool (ocNe ⟨a, b, c, d⟩ ⟨a', b', c', d'⟩)) w := by
  have u3 := Tryz.underlying3
  have a3 := Tryz.isAgg3
  have z3 := Tryz.sizeOf3
  have hS : Tryz.prog.underlying 53 = some (.struct (Tryz.prog.fieldsOf 53)) := by kernel_rfl
  have hp : Tryz.prog.stoodInHeld 53 = false := by kernel_rfl
  rw [run_neq_struct, show (10000 : Nat) = 9999 + 1 from rfl, run_equalIn_agg w 9999 53 _ _ hS hp]
  simp only [Program.fieldsOf, Tryz.underlying53]
  go_simp
  by_cases h1 : a = a' <;> by_cases h2 : b = b' <;> by_cases h3 : c = c' <;> by_cases h4 : d = d' <;> simp [ocNe, h1, h2, h3, h4]
theorem eqlOc (a b c d a' b' c' d' : Int) (w : World) : (binOp .eql 53 (.agg #[.int .i64 a, .int .i64 b, .int .i64 c, .int .i64 d]) (.agg #[.int .i64 a', .int .i64 b', .int .i64 c', .int .i64 d'])).run Tryz.prog w = .ok (.bool (ocEq ⟨a, b, c, d⟩ ⟨a', b', c', d'⟩)) w := by
  have u3 := Tryz.underlying3
  have a3 := Tryz.isAgg3
  have z3 := Tryz.sizeOf3
  have hS : Tryz.prog.underlying 53 = some (.struct (Tryz.prog.fieldsOf 53)) := by kernel_rfl
  have hp : Tryz.prog.stoodInHeld 53 = false := by kernel_rfl
  rw [run_eql_struct, show (10000 : Nat) = 9999 + 1 from rfl, run_equalIn_agg w 9999 53 _ _ hS hp]
  simp only [Program.fieldsOf, Tryz.underlying53]
  go_simp
  by_cases h1 : a = a' <;> by_cases h2 : b = b' <;> by_cases h3 : c = c' <;> by_cases h4 : d = d' <;> simp [ocEq, ocNe, h1, h2, h3, h4]

end Go.Proofs.YthebmbhdlkldiaaGreatDoor
