/- StateCuts: the given statement. -/
import Derived.Test.YtlfhokcjbgpjhaaGreatDoorRows
import Derived.Test.YtlfhokcjbgpjhaaGreatDoorTie
import Derived.Test.YtlfhokcjbgpjhaaGreatDoorCards
import Derived.Test.YtlfhokcjbgpjhaaGreatDoorTxtA
import Derived.Test.YtlfhokcjbgpjhaaGreatDoorBlV
import Derived.Lib.LaidIn
import Derived.Lib.LaidU8T
import Derived.Deep.DeepWitnessRowRef
import Derived.SevenTiedAt
import Derived.Test.YtlfhokcjbgpjhaaGreatDoorStaD
import Derived.Test.YtlfhokcjbgpjhaaGreatDoorStaW
/- The tables of utf8 as the rows list them; a world that holds them. No condition. -/
namespace Go.Proofs.YtlfhokcjbgpjhaaGreatDoor
open Go.ChangeShapes Go.WideShapes Go.ChangeAt Go.RowKit Go.Bl Go.Shelf

theorem own : ownKnob Tryz.prog.godebug = none := by kernel_rfl
theorem laidOut : laidOutB Tryz.prog = true := by kernel_rfl
theorem opStr (W : World) : Opens Tryz.prog W 9 (fun s : ByteArray => [.string s]) (fun s => s.size ≤ 140737488351232) := Opens.string Tryz.underlying9
theorem opInt (W : World) : Opens Tryz.prog W 3 (fun n : Int => [.int .i64 n]) (fun n => -9223372036854775808 ≤ n ∧ n ≤ 9223372036854775807) := Opens.int Tryz.underlying3
theorem opInts (W : World) : Opens Tryz.prog W 85 (fun p : Value × List Int => [p.1]) (sliceC Tryz.prog W 3 1 (fun n : Int => [.int .i64 n]) (fun n => -9223372036854775808 ≤ n ∧ n ≤ 9223372036854775807)) := Opens.slice Tryz.underlying85 (by kernel_rfl) (by decide) (opInt W)
theorem eAccept : (Rows.laid_unicode_utf8_acceptRanges : DataW Unit) = Lib.acceptData := by kernel_rfl
theorem eFirst : Rows.laid_unicode_utf8_first = Lib.firstData := by kernel_rfl
theorem tabs_of_laid {W : World} (h : laidMetH Tryz.prog [("unicode/utf8.acceptRanges", Rows.laid_unicode_utf8_acceptRanges), ("unicode/utf8.first", Rows.laid_unicode_utf8_first)] W) : Tabs W := by
  rw [eAccept, eFirst] at h
  have h3 := Lib.laidMet.reads h (.tail _ (.head _))
  have h4 := Lib.laidMet.reads h (.head _)
  exact utf8Tabs_of_readsT (ρ := Tryz.lays197_ren) ⟨Tryz.lays197.t5, Tryz.lays197.t119, Tryz.lays197.t138, Tryz.lays197.t139⟩ ⟨by kernel_rfl, by kernel_rfl, by kernel_rfl, by kernel_rfl, by kernel_rfl, by kernel_rfl, by kernel_rfl⟩ h3 h4

/-- The settled world, the two tables holding what their initialisers lay. -/
noncomputable def laidWorld (os : Os) : World :=
  let w0 := World.holding Tryz.prog os ⟨#[], #[], []⟩
  let put (h : Array Obj) (g : Nat) (cs : Array Value) : Array Obj := h.modify g fun
    | .cells _ t frozen => .cells cs t frozen
    | o => o
  let h1 := put w0.heap (Tryz.lays197_ren.g 3) (Lib.firstTab.map fun z => Value.int .u8 z).toArray
  let h2 := put h1 (Tryz.lays197_ren.g 4) ((List.range 16).flatMap fun i => [Value.int .u8 (Lib.accLo i), Value.int .u8 (Lib.accHi i)]).toArray
  { w0 with heap := h2 }
theorem laid_met (os : Os) (args : Array Value) : laidMet Tryz.prog [("unicode/utf8.acceptRanges", Rows.laid_unicode_utf8_acceptRanges), ("unicode/utf8.first", Rows.laid_unicode_utf8_first)] ((laidWorld os).forCall (fun _ _ => 0) ⟨#[], args, []⟩).memory := by
  rw [eAccept, eFirst]
  exact (LaidIn.of_run (l := [("unicode/utf8.acceptRanges", Lib.acceptData), ("unicode/utf8.first", Lib.firstData)]) [Tryz.lays197_ren.g 4, Tryz.lays197_ren.g 3] 8 (by kernel_rfl) (by kernel_rfl) (by kernel_rfl) (by kernel_rfl)).met
end Go.Proofs.YtlfhokcjbgpjhaaGreatDoor

/- How an entry reads. No condition. -/
namespace Go.Proofs.YtlfhokcjbgpjhaaGreatDoor
open Go.ChangeShapes Go.WideShapes Go.ChangeAt Go.RowKit Go.Bl

theorem opEv (W : World) : Opens Tryz.prog W 66 evc (fun e => e.kind.size ≤ 140737488351232 ∧ e.data.size ≤ 140737488351232) :=
  (Opens.struct Tryz.underlying66 (by kernel_rfl) (OpensFs.one (opStr W) rfl (by kernel_rfl) (OpensFs.one (opStr W) rfl (by kernel_rfl) OpensFs.nil))).as (fun p => ⟨p.1, p.2.1⟩) (fun _ h => ⟨rfl, h.1, h.2.1⟩)
theorem opEvs (W : World) : Opens Tryz.prog W 38 (fun p : Value × List Ev => [p.1]) (sliceC Tryz.prog W 66 2 evc (fun e => e.kind.size ≤ 140737488351232 ∧ e.data.size ≤ 140737488351232)) := Opens.slice Tryz.underlying38 (by kernel_rfl) (by decide) (opEv W)
theorem opEntry (W : World) : Opens Tryz.prog W 42 entc (EntOk W (fun b => b < W.heap.size)) :=
  (Opens.struct Tryz.underlying42 (by kernel_rfl) (OpensFs.one (opInt W) rfl (by kernel_rfl) (OpensFs.one (opInt W) rfl (by kernel_rfl)
    (OpensFs.cons (k := 5) (Opens.struct Tryz.underlying40 (by kernel_rfl) (OpensFs.one (opStr W) rfl (by kernel_rfl) (OpensFs.one (opInt W) rfl (by kernel_rfl) (OpensFs.one (opInt W) rfl (by kernel_rfl) (OpensFs.one (opInt W) rfl (by kernel_rfl)
      (OpensFs.one (opEvs W) rfl (by kernel_rfl) OpensFs.nil)))))) rfl (by kernel_rfl) OpensFs.nil)))).as
    (fun p => ⟨p.1, p.2.1, p.2.2.1.1, p.2.2.1.2.1, p.2.2.1.2.2.1, p.2.2.1.2.2.2.1, p.2.2.1.2.2.2.2.1.1, p.2.2.1.2.2.2.2.1.2⟩)
    (fun _ h => ⟨rfl, h.2.2.1.2.2.2.2.1.1, fun e he => ⟨Nat.le_trans (h.2.2.1.2.2.2.2.1.2.1 e he).1 (by decide), Nat.le_trans (h.2.2.1.2.2.2.2.1.2.1 e he).2 (by decide)⟩, Nat.le_trans h.2.2.1.1 (by decide), h.1⟩)
theorem opEntries (W : World) : Opens Tryz.prog W 22 (fun p : Value × List Ent => [p.1]) (sliceC Tryz.prog W 42 7 entc (EntOk W (fun b => b < W.heap.size))) := Opens.slice Tryz.underlying22 (by kernel_rfl) (by decide) (opEntry W)
def batc (a : Ent) : List Value := [.string a.stream, .int .i64 a.expect, .int .i64 a.session, .int .i64 a.seq, a.evv]
theorem opBatch (W : World) : Opens Tryz.prog W 40 batc (fun a => EntOk W (fun b => b < W.heap.size) a ∧ a.pos = 0 ∧ a.epoch = 0) :=
  (Opens.struct Tryz.underlying40 (by kernel_rfl) (OpensFs.one (opStr W) rfl (by kernel_rfl) (OpensFs.one (opInt W) rfl (by kernel_rfl) (OpensFs.one (opInt W) rfl (by kernel_rfl) (OpensFs.one (opInt W) rfl (by kernel_rfl)
      (OpensFs.one (opEvs W) rfl (by kernel_rfl) OpensFs.nil)))))).as
    (fun p => ⟨0, 0, p.1, p.2.1, p.2.2.1, p.2.2.2.1, p.2.2.2.2.1.1, p.2.2.2.2.1.2⟩)
    (fun _ h => ⟨rfl, ⟨h.2.2.2.2.1.1, fun e he => ⟨Nat.le_trans (h.2.2.2.2.1.2.1 e he).1 (by decide), Nat.le_trans (h.2.2.2.2.1.2.1 e he).2 (by decide)⟩, Nat.le_trans h.1 (by decide), (show (-9223372036854775808 : Int) ≤ 0 by decide), (show (0 : Int) ≤ 9223372036854775807 by decide)⟩, rfl, rfl⟩)
end Go.Proofs.YtlfhokcjbgpjhaaGreatDoor

namespace Go.Proofs.YtlfhokcjbgpjhaaGreatDoor
open Go.ChangeShapes Go.WideShapes Go.ChangeAt Go.RowKit Go.Bl

theorem stateCuts_witness (os : Os) {H : Type} (enc : TypeId × Value → H) : (OpenSpec.ofChange Rows.stateCutsSpec).preRow enc Tryz.prog Tryz.f3 [] false [("unicode/utf8.acceptRanges", Rows.laid_unicode_utf8_acceptRanges), ("unicode/utf8.first", Rows.laid_unicode_utf8_first)] ((laidWorld os).forCall (fun _ _ => 0) ⟨#[], #[.slice none 0 0, .int .i64 0], []⟩).memory #[.slice none 0 0, .int .i64 0] :=
  OpenSpec.preRow_of_B rfl 8 (by kernel_rfl) (by kernel_rfl) (laid_met os _)

set_option maxRecDepth 100000 in
theorem stateCuts_lifted (os : Os) (started : os.Started) (H : Type) (enc : TypeId × Value → H) (F : Stop.Interp) :
    ReturnsInHanded {} Tryz.checked os 3 .any ((OpenSpec.ofChange Rows.stateCutsSpec).preRow enc Tryz.prog Tryz.f3 Rows.stateCutsRow.domain false Rows.stateCutsRow.laid) (((OpenSpec.ofChange Rows.stateCutsSpec).at F).post enc Tryz.prog Tryz.f3 false true false false) := by
  refine law_row (C := Tryz.checked) own started (by kernel_rfl) Tryz.func3
    (witness_row_atRef (enc := enc) (C := Tryz.checked) false (laidWorld os) #[.slice none 0 0, .int .i64 0] rfl (by kernel_rfl) (by kernel_rfl) (by kernel_rfl) (stateCuts_witness os enc))
    laidOut (by kernel_rfl) (by kernel_rfl) Tryz.underlying4 rfl (fun ds h => by match ds, h with | [_, _], _ => rfl) ?_
  intro W base args ds p hval0 hA0 hz0 hL
  have hT := tabs_of_laid hL
  have hval : ∀ (j : Nat) t v, Tryz.f3.params[j]? = some t → args[j]? = some v → Value.okWide Tryz.prog W .any base t v := hval0
  have hA : DataW.TrodAll enc Tryz.prog W 0 (fun _ => true) true Tryz.f3.params.toList args.toList ds p := hA0
  have hz : SizedEach Tryz.prog Tryz.f3.params.toList ds := hz0
  rw [Tryz.params3] at hA hval hz
  obtain ⟨v0, v1, d0, d1, p0, p1, rfl, rfl, rfl, h0, h1⟩ := trodAll_two hA
  obtain ⟨⟨v0, l⟩, rfl, q0⟩ := arg_one (opEntries W) h0 (fun n hn => hz n (by simp only [DataW.weightsEach, List.mem_append]; exact .inl hn)) (hval 0 22 v0 rfl rfl) (by simp [Tryz.underlying22]) (by simp [Tryz.underlying22])
  obtain ⟨n, rfl, q1⟩ := arg_one (opInt W) h1 (fun n hn => hz n (by simp only [DataW.weightsEach, List.mem_append]; exact .inr (.inl hn))) (hval 1 3 v1 rfl rfl) (by simp [Tryz.underlying3]) (by simp [Tryz.underlying3])
  exact cuts_any W hT v0 l ⟨q0.1, q0.2.1⟩ n q1

theorem stateCuts_row : Rows.StateCutsSaid :=
  OpenClaim.holds_of_cond 3 Tryz.f3 rfl rfl rfl rfl rfl rfl rfl ⟨rfl, rfl, rfl, rfl, rfl⟩ rfl rfl rfl rfl rfl (by kernel_rfl) Tryz.func3 (by kernel_rfl)
    (of_decide_eq_true (by kernel_rfl)) (by unfold Func.isWrapper; first | (rw [if_pos (by decide +kernel)]; kernel_rfl) | (rw [if_neg (by decide +kernel)]; exact ⟨rfl, rfl⟩))
    (fun os started H enc _ F0 => by rw [OpenClaim.pre_eq_preRow]; exact stateCuts_lifted os started H enc F0)

theorem stateCuts_holds : Rows.StateCutsCardSaid :=
  Claim7.holds_tied_plain_at .later [] [.data, .pinned] true Rows.stateCutsCard.stood.harness Rows.stateCutsCard.stood.looks
    stateCuts_row (fun _ h => by cases h) (by kernel_rfl) (fun _ h => by cases h) stateCuts_row_tie rfl ⟨rfl, rfl⟩ (by kernel_rfl) rfl
    (fun f fn hf hfn => by
      obtain rfl : f = 3 := (Option.some.inj ((show Tryz.prog.funcNamed "bucketline/bucketlinelaw15.StateCuts" = some 3 by kernel_rfl).symm.trans hf)).symm
      obtain rfl : fn = Tryz.f3 := (Option.some.inj (Tryz.func3.symm.trans hfn)).symm
      refine ⟨by kernel_rfl, fun j t ht => ?_⟩
      rw [Tryz.params3] at ht
      have hall : (#[22, 3] : Array TypeId).all (fun t => Tryz.prog.wantsStandIn t == false) = true := by kernel_rfl
      obtain ⟨hj, e⟩ := Array.getElem?_eq_some_iff.1 ht
      have := (Array.all_eq_true.1 hall) j hj
      rw [e] at this
      have h9 : Tryz.prog.wantsStandIn t = false := by simpa using this
      exact h9)
    (by kernel_rfl)
end Go.Proofs.YtlfhokcjbgpjhaaGreatDoor
