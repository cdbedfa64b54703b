/- Dedup: tables that keep away from blocks X; the chapter's examples; what the arguments read as. -/
import Derived.Test.YthdcnknjjbdefaaGreatDoorDedD
import Derived.Test.YthdcnknjjbdefaaGreatDoorBlC
namespace Go.Proofs.YthdcnknjjbdefaaGreatDoor.Ded
open Go.ChangeShapes Go.WideShapes Go.ChangeAt Go.RowKit Go.Bl

def Tab (X : Nat → Prop) (w : World) (p : Nat) (L : List En) : Prop := ∃ F G, TabAt w p L F G ∧ ∀ k, F k → ¬ X k
theorem Tab.fresh {X : Nat → Prop} {w w' : World} {p : Nat} {L : List En} (h : Tab X w p L) (hk : Below w.heap.size w w') : Tab X w' p L := by
  obtain ⟨F, G, h1, h2⟩ := h
  exact ⟨F, G, h1.fresh hk, h2⟩
theorem Tab.ok {X : Nat → Prop} {w : World} {p : Nat} {L : List En} (h : Tab X w p L) : OkL L := by
  obtain ⟨F, G, ⟨bm, R, h1, _⟩, _⟩ := h
  exact h1.ok
theorem below_not {X : Nat → Prop} {w w' : World} {B : Nat} (h : Keeps (fun k => ¬ X k) w w') (hB : B ≤ w.heap.size) (hX : ∀ k, k < B → X k) : Below B w w' :=
  h.below hB fun k hk => Decidable.byContradiction fun hc => hk (hX k (by omega))

section
variable (w : World) (X : Nat → Prop) (hX : ∀ k, X k → k < w.heap.size)
include hX
theorem newT : Calls Tryz.prog 60 #[] w fun e w' => ∃ p, e = .returned (.pointer (some ⟨p, 0, none⟩)) ∧ Tab X w' p [] ∧ Below w.heap.size w w' :=
  (new_any w).mono fun _ _ ⟨he, hB, hT⟩ => ⟨_, he, ⟨_, _, hT, fun k hk hx => by have := hX k hx; omega⟩, hB⟩
theorem putT (p : Nat) (L : List En) (h : Tab X w p L) (x y : Int) (hx : i64 x) (hy : i64 y) (o : Oc) (hL : L.length ≤ 1000000) :
    Calls Tryz.prog 66 #[.pointer (some ⟨p, 0, none⟩), .int .i64 x, .int .i64 y, .agg #[.int .i64 o.code, .int .i64 o.pos, .int .i64 o.first, .int .i64 o.ver]] w fun e w' => e = .returned (.int .i64 (putL L x y o).2) ∧ Tab X w' p (putL L x y o).1 ∧ Keeps (fun k => ¬ X k) w w' := by
  obtain ⟨F, G, h1, h2⟩ := h
  have hgf : ∀ k, G k → F k := by obtain ⟨bm, R, h3, _⟩ := h1; exact h3.gf
  refine (put_any w p L F G h1 x y hx hy o hL).mono fun _ _ ⟨he, hk, G', _, hT⟩ => ⟨he, ⟨_, G', hT, fun k hk hx => ?_⟩, hk.mono fun k _ hg => h2 k (hgf k hg)⟩
  rcases hk with e | e
  · exact h2 k e hx
  · have := hX k hx; omega
omit hX in
theorem lookT (p : Nat) (L : List En) (h : Tab X w p L) (x y : Int) (hx : i64 x) (hy : i64 y) :
    Calls Tryz.prog 64 #[.pointer (some ⟨p, 0, none⟩), .int .i64 x, .int .i64 y] w fun e w' => e = .returned (.tuple #[.agg #[.int .i64 (lookL L x y).1.code, .int .i64 (lookL L x y).1.pos, .int .i64 (lookL L x y).1.first, .int .i64 (lookL L x y).1.ver], .int .i64 (lookL L x y).2]) ∧ Tab X w' p L ∧ Below w.heap.size w w' := by
  obtain ⟨F, G, h1, h2⟩ := h
  exact (look_any w p L F G h1 x y hx hy).mono fun _ _ ⟨he, hB⟩ => ⟨he, ⟨F, G, h1.fresh hB, h2⟩, hB⟩
end

theorem own : ownKnob Tryz.prog.godebug = none := by kernel_rfl
theorem laidOut : laidOutB Tryz.prog = true := by kernel_rfl
end Go.Proofs.YthdcnknjjbdefaaGreatDoor.Ded
