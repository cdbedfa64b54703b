/- StateParts: the given statement. -/
import Derived.Test.YtlfhokcjbgpjhaaGreatDoorParM
import Derived.Test.YtlfhokcjbgpjhaaGreatDoorRecO
import Derived.Test.YtlfhokcjbgpjhaaGreatDoorRows
import Derived.Test.YtlfhokcjbgpjhaaGreatDoorParJ
import Derived.Test.YtlfhokcjbgpjhaaGreatDoorTie
import Derived.Test.YtlfhokcjbgpjhaaGreatDoorCards
import Derived.SevenTiedAt
/- How the parts of a state read. No condition. -/
namespace Go.Proofs.YtlfhokcjbgpjhaaGreatDoor
open Go.ChangeShapes Go.WideShapes Go.ChangeAt Go.RowKit Go.Bl

def mkSm (n : ByteArray) (e : Value) (es : List Ev) (p : Value) (ps : List Int) : SmS :=
  if h : e.oneCell' = true ∧ p.oneCell' = true then ⟨⟨n, es, ps⟩, e, p, h.1, h.2⟩ else ⟨⟨n, es, ps⟩, .slice none 0 0, .slice none 0 0, rfl, rfl⟩
theorem mkSm_eq {n : ByteArray} {e : Value} {es : List Ev} {p : Value} {ps : List Int} {w : World} {G : Nat → Prop} (h1 : Sl w G 2 evc e es) (h2 : Sl w G 1 intc p ps) : ∃ o1 o2, mkSm n e es p ps = ⟨⟨n, es, ps⟩, e, p, o1, o2⟩ := by
  obtain ⟨A, c, rfl, _⟩ := h1.shape
  obtain ⟨B, d, rfl, _⟩ := h2.shape
  exact ⟨rfl, rfl, by unfold mkSm; rw [dif_pos ⟨rfl, rfl⟩]⟩
def SmOk (w : World) (x : SmS) : Prop := SmAt w (fun b => b < w.heap.size) x ∧ x.sp.name.size ≤ 140737488351232 ∧ ∀ e ∈ x.sp.evs, e.kind.size ≤ 140737488351232 ∧ e.data.size ≤ 140737488351232
theorem opIntsP (W : World) : Opens Tryz.prog W 85 (fun p : Value × List Int => [p.1]) (sliceC Tryz.prog W 3 1 intc (fun n => -9223372036854775808 ≤ n ∧ n ≤ 9223372036854775807)) := Opens.slice Tryz.underlying85 (by kernel_rfl) (by decide) (opInt W)
theorem opSm (W : World) : Opens Tryz.prog W 102 smc (SmOk W) :=
  (Opens.struct Tryz.underlying102 (by kernel_rfl) (OpensFs.one (opStr W) rfl (by kernel_rfl) (OpensFs.one (opEvs W) rfl (by kernel_rfl) (OpensFs.one (opIntsP W) rfl (by kernel_rfl) OpensFs.nil)))).as
    (fun p => mkSm p.1 p.2.1.1 p.2.1.2 p.2.2.1.1 p.2.2.1.2)
    (fun p h => by
      obtain ⟨o1, o2, e⟩ := mkSm_eq (n := p.1) h.2.1.1 h.2.2.1.1
      rw [e]
      exact ⟨rfl, ⟨h.2.1.1, h.2.2.1.1⟩, h.1, h.2.1.2.1⟩)
theorem opSms (W : World) : Opens Tryz.prog W 49 (fun p : Value × List SmS => [p.1]) (sliceC Tryz.prog W 102 3 smc (SmOk W)) := Opens.slice Tryz.underlying49 (by kernel_rfl) (by decide) (opSm W)
theorem opOut (W : World) : Opens Tryz.prog W 35 (fun o : Ded.Oc => [.int .i64 o.code, .int .i64 o.pos, .int .i64 o.first, .int .i64 o.ver]) (fun _ => True) :=
  (Opens.struct Tryz.underlying35 (by kernel_rfl) (OpensFs.one (opInt W) rfl (by kernel_rfl) (OpensFs.one (opInt W) rfl (by kernel_rfl) (OpensFs.one (opInt W) rfl (by kernel_rfl) (OpensFs.one (opInt W) rfl (by kernel_rfl) OpensFs.nil))))).as
    (fun p => ⟨p.1, p.2.1, p.2.2.1, p.2.2.2.1⟩) (fun _ _ => ⟨rfl, trivial⟩)
theorem opReq (W : World) : Opens Tryz.prog W 105 Ded.onec (fun _ => True) :=
  (Opens.struct Tryz.underlying105 (by kernel_rfl) (OpensFs.one (opInt W) rfl (by kernel_rfl) (OpensFs.one (opInt W) rfl (by kernel_rfl) (OpensFs.cons (k := 4) (opOut W) rfl (by kernel_rfl) OpensFs.nil)))).as
    (fun p => ⟨p.1, p.2.1, p.2.2.1⟩) (fun _ _ => ⟨rfl, trivial⟩)
theorem opReqs (W : World) : Opens Tryz.prog W 50 (fun p : Value × List Ded.En => [p.1]) (sliceC Tryz.prog W 105 6 Ded.onec (fun _ => True)) := Opens.slice Tryz.underlying50 (by kernel_rfl) (by decide) (opReq W)
structure PtV where
  ap : Int
  sv : Value
  S : List SmS
  rv : Value
  rs : List Ded.En
def ptc (x : PtV) : List Value := [.int .i64 x.ap, x.sv, x.rv]
theorem opParts (W : World) : Opens Tryz.prog W 52 ptc (fun x => PtAt W (fun b => b < W.heap.size) x.sv x.rv ⟨x.ap, x.S.map SmS.sp, x.rs⟩ ∧ ∀ y ∈ x.S.map SmS.sp, y.name.size ≤ 140737488351232 ∧ ∀ e ∈ y.evs, e.kind.size ≤ 140737488351232 ∧ e.data.size ≤ 140737488351232) :=
  (Opens.struct Tryz.underlying52 (by kernel_rfl) (OpensFs.one (opInt W) rfl (by kernel_rfl) (OpensFs.one (opSms W) rfl (by kernel_rfl) (OpensFs.one (opReqs W) rfl (by kernel_rfl) OpensFs.nil)))).as
    (fun p => ⟨p.1, p.2.1.1, p.2.1.2, p.2.2.1.1, p.2.2.1.2⟩)
    (fun p h => ⟨rfl, ⟨⟨p.2.1.2, h.2.1.1, fun x hx => (h.2.1.2.1 x hx).1, rfl⟩, h.2.2.1.1⟩, fun y hy => by
      obtain ⟨x, hx, rfl⟩ := List.mem_map.1 hy
      exact (h.2.1.2.1 x hx).2⟩)
end Go.Proofs.YtlfhokcjbgpjhaaGreatDoor

namespace Go.Proofs.YtlfhokcjbgpjhaaGreatDoor
open Go.ChangeShapes Go.WideShapes Go.ChangeAt Go.RowKit Go.Bl

theorem stateParts_witness (os : Os) {H : Type} (enc : TypeId × Value → H) : (OpenSpec.ofChange Rows.statePartsSpec).preRow enc Tryz.prog Tryz.f5 [] false [("unicode/utf8.acceptRanges", Rows.laid_unicode_utf8_acceptRanges), ("unicode/utf8.first", Rows.laid_unicode_utf8_first)] ((laidWorld os).forCall (fun _ _ => 0) ⟨#[], #[.agg #[.int .i64 0, .slice none 0 0, .slice none 0 0], .slice none 0 0], []⟩).memory #[.agg #[.int .i64 0, .slice none 0 0, .slice none 0 0], .slice none 0 0] :=
  OpenSpec.preRow_of_B rfl 8 (by kernel_rfl) (by kernel_rfl) (laid_met os _)

set_option maxRecDepth 100000 in
theorem stateParts_lifted (os : Os) (started : os.Started) (H : Type) (enc : TypeId × Value → H) (F : Stop.Interp) :
    ReturnsInHanded {} Tryz.checked os 5 .any ((OpenSpec.ofChange Rows.statePartsSpec).preRow enc Tryz.prog Tryz.f5 Rows.statePartsRow.domain false Rows.statePartsRow.laid) (((OpenSpec.ofChange Rows.statePartsSpec).at F).post enc Tryz.prog Tryz.f5 false true false false) := by
  refine law_row (C := Tryz.checked) own started (by kernel_rfl) Tryz.func5
    (witness_row_atRef (enc := enc) (C := Tryz.checked) false (laidWorld os) #[.agg #[.int .i64 0, .slice none 0 0, .slice none 0 0], .slice none 0 0] rfl (by kernel_rfl) (by kernel_rfl) (by kernel_rfl) (stateParts_witness os enc))
    laidOut (by kernel_rfl) (by kernel_rfl) Tryz.underlying4 rfl (fun ds h => by match ds, h with | [_, _], _ => rfl) ?_
  intro W base args ds p hval0 hA0 hz0 hL
  have hT := tabs_of_laid hL
  have hval : ∀ (j : Nat) t v, Tryz.f5.params[j]? = some t → args[j]? = some v → Value.okWide Tryz.prog W .any base t v := hval0
  have hA : DataW.TrodAll enc Tryz.prog W 0 (fun _ => true) true Tryz.f5.params.toList args.toList ds p := hA0
  have hz : SizedEach Tryz.prog Tryz.f5.params.toList ds := hz0
  rw [Tryz.params5] at hA hval hz
  obtain ⟨v0, v1, d0, d1, p0, p1, rfl, rfl, rfl, h0, h1⟩ := trodAll_two hA
  obtain ⟨pv, rfl, q0⟩ := arg_agg (opParts W) h0 (fun n hn => hz n (by simp only [DataW.weightsEach, List.mem_append]; exact .inl hn)) (hval 0 52 v0 rfl rfl) Tryz.underlying52
  obtain ⟨⟨v1, l⟩, rfl, q1⟩ := arg_one (opEntries W) h1 (fun n hn => hz n (by simp only [DataW.weightsEach, List.mem_append]; exact .inr (.inl hn))) (hval 1 22 v1 rfl rfl) (by simp [Tryz.underlying22]) (by simp [Tryz.underlying22])
  exact parts_law W hT ⟨pv.ap, pv.S.map SmS.sp, pv.rs⟩ pv.sv pv.rv q0.1 q0.2 v1 l ⟨q1.1, q1.2.1⟩

theorem stateParts_row : Rows.StatePartsSaid :=
  OpenClaim.holds_of_cond 5 Tryz.f5 rfl rfl rfl rfl rfl rfl rfl ⟨rfl, rfl, rfl, rfl, rfl⟩ rfl rfl rfl rfl rfl (by kernel_rfl) Tryz.func5 (by kernel_rfl)
    (of_decide_eq_true (by kernel_rfl)) (by unfold Func.isWrapper; first | (rw [if_pos (by decide +kernel)]; kernel_rfl) | (rw [if_neg (by decide +kernel)]; exact ⟨rfl, rfl⟩))
    (fun os started H enc _ F0 => by rw [OpenClaim.pre_eq_preRow]; exact stateParts_lifted os started H enc F0)

theorem stateParts_holds : Rows.StatePartsCardSaid :=
  Claim7.holds_tied_plain_at .later [] [.data, .pinned] true Rows.statePartsCard.stood.harness Rows.statePartsCard.stood.looks
    stateParts_row (fun _ h => by cases h) (by kernel_rfl) (fun _ h => by cases h) stateParts_row_tie rfl ⟨rfl, rfl⟩ (by kernel_rfl) rfl
    (fun f fn hf hfn => by
      obtain rfl : f = 5 := (Option.some.inj ((show Tryz.prog.funcNamed "bucketline/bucketlinelaw15.StateParts" = some 5 by kernel_rfl).symm.trans hf)).symm
      obtain rfl : fn = Tryz.f5 := (Option.some.inj (Tryz.func5.symm.trans hfn)).symm
      refine ⟨by kernel_rfl, fun j t ht => ?_⟩
      rw [Tryz.params5] at ht
      have hall : (#[52, 22] : Array TypeId).all (fun t => Tryz.prog.wantsStandIn t == false) = true := by kernel_rfl
      obtain ⟨hj, e⟩ := Array.getElem?_eq_some_iff.1 ht
      have := (Array.all_eq_true.1 hall) j hj
      rw [e] at this
      have h9 : Tryz.prog.wantsStandIn t = false := by simpa using this
      exact h9)
    (by kernel_rfl)
end Go.Proofs.YtlfhokcjbgpjhaaGreatDoor
