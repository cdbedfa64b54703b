/- Dedup: tables that keep away from blocks X; the chapter's examples; what the arguments read as. -/
import Derived.Test.YtdmpedcdnfjapaaDedD
import Derived.Test.YtdmpedcdnfjapaaBlC
namespace Go.Proofs.Ytdmpedcdnfjapaa
open Go.ChangeShapes Go.WideShapes Go.ChangeAt Go.RowKit Go.Bl

def Tab (X : Nat → Prop) (w : World) (p : Nat) (L : List En) : Prop := ∃ F G, TabAt w p L F G ∧ ∀ k, F k → ¬ X k
theorem Tab.fresh {X : Nat → Prop} {w w' : World} {p : Nat} {L : List En} (h : Tab X w p L) (hk : Below w.heap.size w w') : Tab X w' p L := by
  obtain ⟨F, G, h1, h2⟩ := h
  exact ⟨F, G, h1.fresh hk, h2⟩
theorem Tab.ok {X : Nat → Prop} {w : World} {p : Nat} {L : List En} (h : Tab X w p L) : OkL L := by
  obtain ⟨F, G, ⟨bm, R, h1, _⟩, _⟩ := h
  exact h1.ok
theorem below_not {X : Nat → Prop} {w w' : World} {B : Nat} (h : Keeps (fun k => ¬ X k) w w') (hB : B ≤ w.heap.size) (hX : ∀ k, k < B → X k) : Below B w w' :=
  h.below hB fun k hk => Decidable.byContradiction fun hc => hk (hX k (by omega))

section
variable (w : World) (X : Nat → Prop) (hX : ∀ k, X k → k < w.heap.size)
include hX
theorem newT : Calls Try.prog 9 #[] w fun e w' => ∃ p, e = .returned (.pointer (some ⟨p, 0, none⟩)) ∧ Tab X w' p [] ∧ Below w.heap.size w w' :=
  (new_any w).mono fun _ _ ⟨he, hB, hT⟩ => ⟨_, he, ⟨_, _, hT, fun k hk hx => by have := hX k hx; omega⟩, hB⟩
theorem putT (p : Nat) (L : List En) (h : Tab X w p L) (x y : Int) (hx : i64 x) (hy : i64 y) (o : Oc) (hL : L.length ≤ 1000000) :
    Calls Try.prog 11 #[.pointer (some ⟨p, 0, none⟩), .int .i64 x, .int .i64 y, .agg #[.int .i64 o.code, .int .i64 o.pos, .int .i64 o.first, .int .i64 o.ver]] w fun e w' => e = .returned (.int .i64 (putL L x y o).2) ∧ Tab X w' p (putL L x y o).1 ∧ Keeps (fun k => ¬ X k) w w' := by
  obtain ⟨F, G, h1, h2⟩ := h
  have hgf : ∀ k, G k → F k := by obtain ⟨bm, R, h3, _⟩ := h1; exact h3.gf
  refine (put_any w p L F G h1 x y hx hy o hL).mono fun _ _ ⟨he, hk, G', _, hT⟩ => ⟨he, ⟨_, G', hT, fun k hk hx => ?_⟩, hk.mono fun k _ hg => h2 k (hgf k hg)⟩
  rcases hk with e | e
  · exact h2 k e hx
  · have := hX k hx; omega
omit hX in
theorem lookT (p : Nat) (L : List En) (h : Tab X w p L) (x y : Int) (hx : i64 x) (hy : i64 y) :
    Calls Try.prog 10 #[.pointer (some ⟨p, 0, none⟩), .int .i64 x, .int .i64 y] w fun e w' => e = .returned (.tuple #[.agg #[.int .i64 (lookL L x y).1.code, .int .i64 (lookL L x y).1.pos, .int .i64 (lookL L x y).1.first, .int .i64 (lookL L x y).1.ver], .int .i64 (lookL L x y).2]) ∧ Tab X w' p L ∧ Below w.heap.size w w' := by
  obtain ⟨F, G, h1, h2⟩ := h
  exact (look_any w p L F G h1 x y hx hy).mono fun _ _ ⟨he, hB⟩ => ⟨he, ⟨F, G, h1.fresh hB, h2⟩, hB⟩
omit hX in
theorem sessT (p : Nat) (L : List En) (h : Tab X w p L) (hL : L.length ≤ 1073741824) : Calls Try.prog 14 #[.pointer (some ⟨p, 0, none⟩)] w fun e w' => ∃ v ks, e = .returned v ∧ ks.Pairwise (· < ·) ∧ (∀ x, x ∈ ks ↔ ∃ e ∈ L, e.ses = x) ∧ ks.length ≤ L.length ∧
    Sl w' (fun q => w.heap.size ≤ q) 1 intc v ks ∧ Tab X w' p L ∧ Below w.heap.size w w' := by
  obtain ⟨F, G, h1, h2⟩ := h
  exact (sess_any w p L F G h1 hL).mono fun _ _ ⟨v, ks, a, b, c, d, e, hB⟩ => ⟨v, ks, a, b, c, d, e, ⟨F, G, h1.fresh hB, h2⟩, hB⟩
omit hX in
theorem seqsT (p : Nat) (L : List En) (h : Tab X w p L) (hL : L.length ≤ 1073741824) (x : Int) (hx : i64 x) : Calls Try.prog 12 #[.pointer (some ⟨p, 0, none⟩), .int .i64 x] w fun e w' => ∃ v ks, e = .returned v ∧ ks.Pairwise (· < ·) ∧ (∀ y, y ∈ ks ↔ (lookL L x y).2 = 1) ∧ ks.length ≤ L.length ∧
    Sl w' (fun q => w.heap.size ≤ q) 1 intc v ks ∧ Tab X w' p L ∧ Below w.heap.size w w' := by
  obtain ⟨F, G, h1, h2⟩ := h
  exact (seqs_any w p L F G h1 hL x hx).mono fun _ _ ⟨v, ks, a, b, c, d, e, hB⟩ => ⟨v, ks, a, b, c, d, e, ⟨F, G, h1.fresh hB, h2⟩, hB⟩
end

def shL : List En := [⟨1, 5, ⟨1, 0, 0, 0⟩⟩, ⟨1, 13, ⟨2, 0, 0, 0⟩⟩]
set_option maxHeartbeats 1000000 in
theorem shown_any (w : World) : Calls Try.prog 8 #[] w fun e w' => e = .returned (.bool true) ∧ Below w.heap.size w w' := by
  go_enter Try.func8, Try.ntmps8
  go_wp2_with fail
  refine (newT w (fun k => k < w.heap.size) (fun _ h => h)).mono ?_
  rintro e w1 ⟨p, rfl, hN1, hB1⟩
  have HT1 := Lib.hid hN1
  have HB1 := Lib.hid hB1
  clear hN1 hB1
  go_wp2_with fail
  refine (putT w1 _ (fun k hk => Nat.lt_of_lt_of_le hk HB1.out.size) p _ HT1.out 1 5 (by unfold i64; omega) (by unfold i64; omega) ⟨1, 0, 0, 0⟩ (by simp)).mono ?_
  rintro e w2 ⟨he, hT, hK⟩
  obtain rfl : e = .returned (.int .i64 0) := he
  have HT2 : Hid (Tab (fun k => k < w.heap.size) w2 p [⟨1, 5, ⟨1, 0, 0, 0⟩⟩]) := Lib.hid hT
  have HB2 := Lib.hid (HB1.out.trans (below_not hK HB1.out.size (fun _ h => h)))
  clear hT hK
  go_wp2_with fail
  refine (putT w2 _ (fun k hk => Nat.lt_of_lt_of_le hk HB2.out.size) p _ HT2.out 1 13 (by unfold i64; omega) (by unfold i64; omega) ⟨2, 0, 0, 0⟩ (by simp)).mono ?_
  rintro e w3 ⟨he, hT, hK⟩
  obtain rfl : e = .returned (.int .i64 0) := he
  have HT3 : Hid (Tab (fun k => k < w.heap.size) w3 p shL) := Lib.hid hT
  have HB3 := Lib.hid (HB2.out.trans (below_not hK HB2.out.size (fun _ h => h)))
  clear hT hK
  go_wp2_with fail
  refine (lookT _ _ p _ HT3.out 1 5 (by unfold i64; omega) (by unfold i64; omega)).mono ?_
  rintro e w4 ⟨he, hT, hB⟩
  rw [show lookL shL 1 5 = (oc0, 2) by decide] at he
  subst he
  have HT4 := Lib.hid hT
  have HB4 := Lib.hid (HB3.out.trans (hB.mono HB3.out.size))
  clear hT hB
  go_wp2_with fail
  refine (lookT _ _ p _ (HT4.out.fresh ((Below.refl _ _).alloc (Nat.le_refl _) _)) 1 6 (by unfold i64; omega) (by unfold i64; omega)).mono ?_
  rintro e w5 ⟨he, hT, hB⟩
  rw [show lookL shL 1 6 = (oc0,0) by decide] at he
  subst he
  have hb5 := hB.size
  rw [World.size_alloc] at hb5
  have HT5 := Lib.hid hT
  have HB5 := Lib.hid (HB4.out.trans (((Below.refl _ _).alloc HB4.out.size _).trans (hB.mono (by have := HB4.out.size; simp; omega))))
  clear hT hB
  go_wp2_with fail
  refine (lookT _ _ p _ (HT5.out.fresh ((Below.refl _ _).alloc (Nat.le_refl _) _)) 2 1 (by unfold i64; omega) (by unfold i64; omega)).mono ?_
  rintro e w6 ⟨he, hT, hB⟩
  rw [show lookL shL 2 1 = (oc0,0) by decide] at he
  subst he
  have hb6 := hB.size
  rw [World.size_alloc] at hb6
  have HT6 := Lib.hid hT
  have HB6 := Lib.hid (HB5.out.trans (((Below.refl _ _).alloc HB5.out.size _).trans (hB.mono (by have := HB5.out.size; simp; omega))))
  clear hT hB
  go_wp2_with fail
  refine (lookT _ _ p _ (HT6.out.fresh ((Below.refl _ _).alloc (Nat.le_refl _) _)) 1 13 (by unfold i64; omega) (by unfold i64; omega)).mono ?_
  rintro e w7 ⟨he, hT, hB⟩
  rw [show lookL shL 1 13 = (⟨2,0,0,0⟩,1) by decide] at he
  subst he
  have hb7 := hB.size
  rw [World.size_alloc] at hb7
  have HT7 := Lib.hid hT
  have HB7 := Lib.hid (HB6.out.trans (((Below.refl _ _).alloc HB6.out.size _).trans (hB.mono (by have := HB6.out.size; simp; omega))))
  clear hT hB
  go_wp2_with fail
  go_ret
  exact ⟨rfl, HB7.out.alloc HB7.out.size _⟩

structure Ac where
  ses : Int
  seq : Int
  o : Oc
def acc (a : Ac) : List Value := [.int .i64 a.ses, .int .i64 a.seq, .int .i64 a.o.code, .int .i64 a.o.pos, .int .i64 a.o.first, .int .i64 a.o.ver]
def AcOk (a : Ac) : Prop := i64 a.ses ∧ i64 a.seq
theorem opInt (W : World) : Opens Try.prog W 3 (fun n : Int => [.int .i64 n]) i64 := Opens.int Try.underlying3
theorem opOc (W : World) : Opens Try.prog W 27 occ (fun _ => True) :=
  (Opens.struct Try.underlying27 (by kernel_rfl) (OpensFs.one (opInt W) rfl (by kernel_rfl) (OpensFs.one (opInt W) rfl (by kernel_rfl) (OpensFs.one (opInt W) rfl (by kernel_rfl)
    (OpensFs.one (opInt W) rfl (by kernel_rfl) OpensFs.nil))))).as (fun p => ⟨p.1, p.2.1, p.2.2.1, p.2.2.2.1⟩) (fun _ _ => ⟨rfl, trivial⟩)
theorem opAc (W : World) : Opens Try.prog W 31 acc AcOk :=
  (Opens.struct Try.underlying31 (by kernel_rfl) (OpensFs.one (opInt W) rfl (by kernel_rfl) (OpensFs.one (opInt W) rfl (by kernel_rfl) (OpensFs.cons (k := 4) (opOc W) rfl (by kernel_rfl) OpensFs.nil)))).as
    (fun p => ⟨p.1, p.2.1, p.2.2.1⟩) (fun _ h => ⟨rfl, h.1, h.2.1⟩)
theorem opActs (W : World) : Opens Try.prog W 22 (fun p : Value × List Ac => [p.1]) (sliceC Try.prog W 31 6 acc AcOk) := Opens.slice Try.underlying22 (by kernel_rfl) (by decide) (opAc W)
theorem own : ownKnob Try.prog.godebug = none := by kernel_rfl
theorem laidOut : laidOutB Try.prog = true := by kernel_rfl
end Go.Proofs.Ytdmpedcdnfjapaa
