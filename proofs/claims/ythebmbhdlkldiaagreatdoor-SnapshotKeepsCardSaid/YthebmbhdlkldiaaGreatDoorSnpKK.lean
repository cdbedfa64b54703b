/- SnapshotKeeps: the given statement. -/
import Derived.Test.YthebmbhdlkldiaaGreatDoorBlC
import Derived.Deep.DeepHandedRow
import Derived.JoinedCond
import Derived.Test.YthebmbhdlkldiaaGreatDoorRows
import Derived.Test.YthebmbhdlkldiaaGreatDoorTie
import Derived.Test.YthebmbhdlkldiaaGreatDoorCards
import Derived.Test.YthebmbhdlkldiaaGreatDoorTxtA
import Derived.Lib.LaidIn
import Derived.Lib.LaidU8T
import Derived.Deep.DeepWitnessRowRef
import Derived.SevenTiedAt
import Derived.Test.YthebmbhdlkldiaaGreatDoorStaD
import Derived.Test.YthebmbhdlkldiaaGreatDoorKepD
import Derived.Carry
/- How an entry reads. No condition. -/
/- The frame of a law's proof where package-level variables are listed with what they hold. Proved for every program; no condition. -/
namespace Go.Bl
open Go.RowKit

theorem law_row {C : Checked} {os : Os} {f : FuncId} {fn : Func} {s : ChangeSpec} {F : Stop.Interp} {H : Type} {eH : TypeId × Value → H} {tb : TypeId} {fresh handsOn : Bool} {laid : List (String × DataW Unit)}
    (own : ownKnob C.prog.godebug = none) (started : os.Started) (noInit : C.prog.inits.idxOf? f = none) (hfn : C.prog.funcs[f]? = some fn)
    (witness : ∃ (w : World) (tape : Tape) (i : Input), w.os = os ∧ (w.forCall tape i).Shaped C.prog ∧ i.vars = [] ∧ Input.okWide C.prog (w.forCall tape i) .any w.heap.size f i ∧
      (OpenSpec.ofChange s).preRow eH C.prog fn [] false laid (w.forCall tape i).memory i.args ∧ ({} : Assume).holds C.prog (lone (Frame.enter C.prog f i.args .normal) [] (w.forCall tape i)))
    (hl : laidOutB C.prog = true) (hrd : (fn.params.toList.all fun t => C.prog.readableRec t && decide (t < C.prog.types.size)) = true) (hres : fn.resultTypes = #[tb]) (htb : C.prog.underlying tb = some .bool) (hvars : s.vars = [])
    (hspec : ∀ ds : List (DataW H), ds.length = fn.params.toList.length → s.fn H (ds ++ []) = { results := [.lit (.bool true)], args := ds })
    (contract : ∀ (W : World) (base : Nat) (args : Array Value) (ds : List (DataW H)) (p : List MemPlace),
      (∀ (j : Nat) t v, fn.params[j]? = some t → args[j]? = some v → Value.okWide C.prog W .any base t v) →
      DataW.TrodAll eH C.prog W 0 (fun _ => true) true fn.params.toList args.toList ds p → SizedEach C.prog fn.params.toList ds → laidMetH C.prog laid W →
      Calls C.prog f args W fun e W' => e = .returned (.bool true) ∧ Below W.heap.size W W') :
    ReturnsInHanded {} C os f .any ((OpenSpec.ofChange s).preRow eH C.prog fn [] false laid) (((OpenSpec.ofChange s).at F).post eH C.prog fn false fresh handsOn false) := by
  refine returnsInHanded_of_row own started noInit hfn witness ?_
  intro W base args ds gs before hval hW _ _ hsz hL _ _
  have hW' := hW
  obtain ⟨p, q, hA, hV, hbef, hfz, hnd⟩ := hW
  have hv2 : (OpenSpec.ofChange s).vars = [] := hvars
  rw [hv2] at hV
  obtain ⟨rfl, rfl⟩ : gs = [] ∧ q = [] := by
    cases gs with
    | nil => exact ⟨rfl, hV⟩
    | cons g gs => exact hV.elim
  have hvt : (OpenSpec.ofChange s).bare.plain.varTypes C.prog = [] := by unfold DataSpec.varTypes; rw [show (OpenSpec.ofChange s).bare.plain.vars = s.vars from rfl, hvars]; rfl
  have hz : SizedEach C.prog fn.params.toList ds := fun n hn => by
    rw [hvt, List.append_nil, List.append_nil] at hsz
    simpa using List.all_eq_true.1 hsz n hn
  refine (contract W base args ds p hval hA hz hL).mono fun e W' ⟨he, hB⟩ => ?_
  subst he
  exact ⟨_, rfl, law_post (s := s) hl (fun t ht => by simpa using List.all_eq_true.1 hrd t ht) hres htb hvars (hspec ds (trodAll_len hA)) hA hbef hW' hB⟩
/-- An argument that is a struct. -/
theorem arg_agg {α : Type} {P : Program} {W : World} {H : Type} {eH : TypeId × Value → H} {t : TypeId} {enc : α → List Value} {C : α → Prop} {v : Value} {d : DataW H} {p : List MemPlace} {r : Reach} {b : Nat} {fs : Array Field} (h : Opens P W t enc C)
    (hT : DataW.Trod eH P W 0 (fun _ => true) true t v d p) (hz : Sized P t d) (hok : Value.okWide P W r b t v) (ht : P.underlying t = some (.struct fs)) : ∃ a, v = .agg (enc a).toArray ∧ C a := by
  obtain ⟨a, ha, hC⟩ := arg_open h hT hz
  unfold Value.okWide at hok
  rw [ht] at hok
  obtain ⟨cs, rfl, _⟩ := hok
  refine ⟨a, ?_, hC⟩
  rw [← ha]
  rfl
end Go.Bl

/- The tables of utf8 as the rows list them; a world that holds them. No condition. -/
namespace Go.Proofs.YthebmbhdlkldiaaGreatDoor
open Go.ChangeShapes Go.WideShapes Go.ChangeAt Go.RowKit Go.Bl Go.Shelf

theorem own : ownKnob Tryz.prog.godebug = none := by kernel_rfl
theorem laidOut : laidOutB Tryz.prog = true := by kernel_rfl
theorem opStr (W : World) : Opens Tryz.prog W 9 (fun s : ByteArray => [.string s]) (fun s => s.size ≤ 140737488351232) := Opens.string Tryz.underlying9
theorem opInt (W : World) : Opens Tryz.prog W 3 (fun n : Int => [.int .i64 n]) (fun n => -9223372036854775808 ≤ n ∧ n ≤ 9223372036854775807) := Opens.int Tryz.underlying3
theorem opInts (W : World) : Opens Tryz.prog W 62 (fun p : Value × List Int => [p.1]) (sliceC Tryz.prog W 3 1 (fun n : Int => [.int .i64 n]) (fun n => -9223372036854775808 ≤ n ∧ n ≤ 9223372036854775807)) := Opens.slice Tryz.underlying62 (by kernel_rfl) (by decide) (opInt W)
theorem eAccept : (Rows.laid_unicode_utf8_acceptRanges : DataW Unit) = Lib.acceptData := by kernel_rfl
theorem eFirst : Rows.laid_unicode_utf8_first = Lib.firstData := by kernel_rfl
theorem tabs_of_laid {W : World} (h : laidMetH Tryz.prog [("unicode/utf8.acceptRanges", Rows.laid_unicode_utf8_acceptRanges), ("unicode/utf8.first", Rows.laid_unicode_utf8_first)] W) : Tabs W := by
  rw [eAccept, eFirst] at h
  have h3 := Lib.laidMet.reads h (.tail _ (.head _))
  have h4 := Lib.laidMet.reads h (.head _)
  exact utf8Tabs_of_readsT (ρ := Tryz.lays197_ren) ⟨Tryz.lays197.t5, Tryz.lays197.t119, Tryz.lays197.t138, Tryz.lays197.t139⟩ ⟨by kernel_rfl, by kernel_rfl, by kernel_rfl, by kernel_rfl, by kernel_rfl, by kernel_rfl, by kernel_rfl⟩ h3 h4

/-- The settled world, the two tables holding what their initialisers lay. -/
noncomputable def laidWorld (os : Os) : World :=
  let w0 := World.holding Tryz.prog os ⟨#[], #[], []⟩
  let put (h : Array Obj) (g : Nat) (cs : Array Value) : Array Obj := h.modify g fun
    | .cells _ t frozen => .cells cs t frozen
    | o => o
  let h1 := put w0.heap (Tryz.lays197_ren.g 3) (Lib.firstTab.map fun z => Value.int .u8 z).toArray
  let h2 := put h1 (Tryz.lays197_ren.g 4) ((List.range 16).flatMap fun i => [Value.int .u8 (Lib.accLo i), Value.int .u8 (Lib.accHi i)]).toArray
  { w0 with heap := h2 }
theorem laid_met (os : Os) (args : Array Value) : laidMet Tryz.prog [("unicode/utf8.acceptRanges", Rows.laid_unicode_utf8_acceptRanges), ("unicode/utf8.first", Rows.laid_unicode_utf8_first)] ((laidWorld os).forCall (fun _ _ => 0) ⟨#[], args, []⟩).memory := by
  rw [eAccept, eFirst]
  exact (LaidIn.of_run (l := [("unicode/utf8.acceptRanges", Lib.acceptData), ("unicode/utf8.first", Lib.firstData)]) [Tryz.lays197_ren.g 4, Tryz.lays197_ren.g 3] 8 (by kernel_rfl) (by kernel_rfl) (by kernel_rfl) (by kernel_rfl)).met
end Go.Proofs.YthebmbhdlkldiaaGreatDoor

namespace Go.Proofs.YthebmbhdlkldiaaGreatDoor
open Go.ChangeShapes Go.WideShapes Go.ChangeAt Go.RowKit Go.Bl

theorem opEv (W : World) : Opens Tryz.prog W 77 evc (fun e => e.kind.size ≤ 140737488351232 ∧ e.data.size ≤ 140737488351232) :=
  (Opens.struct Tryz.underlying77 (by kernel_rfl) (OpensFs.one (opStr W) rfl (by kernel_rfl) (OpensFs.one (opStr W) rfl (by kernel_rfl) OpensFs.nil))).as (fun p => ⟨p.1, p.2.1⟩) (fun _ h => ⟨rfl, h.1, h.2.1⟩)
theorem opEvs (W : World) : Opens Tryz.prog W 46 (fun p : Value × List Ev => [p.1]) (sliceC Tryz.prog W 77 2 evc (fun e => e.kind.size ≤ 140737488351232 ∧ e.data.size ≤ 140737488351232)) := Opens.slice Tryz.underlying46 (by kernel_rfl) (by decide) (opEv W)
theorem opEntry (W : World) : Opens Tryz.prog W 50 entc (EntOk W (fun b => b < W.heap.size)) :=
  (Opens.struct Tryz.underlying50 (by kernel_rfl) (OpensFs.one (opInt W) rfl (by kernel_rfl) (OpensFs.one (opInt W) rfl (by kernel_rfl)
    (OpensFs.cons (k := 5) (Opens.struct Tryz.underlying48 (by kernel_rfl) (OpensFs.one (opStr W) rfl (by kernel_rfl) (OpensFs.one (opInt W) rfl (by kernel_rfl) (OpensFs.one (opInt W) rfl (by kernel_rfl) (OpensFs.one (opInt W) rfl (by kernel_rfl)
      (OpensFs.one (opEvs W) rfl (by kernel_rfl) OpensFs.nil)))))) rfl (by kernel_rfl) OpensFs.nil)))).as
    (fun p => ⟨p.1, p.2.1, p.2.2.1.1, p.2.2.1.2.1, p.2.2.1.2.2.1, p.2.2.1.2.2.2.1, p.2.2.1.2.2.2.2.1.1, p.2.2.1.2.2.2.2.1.2⟩)
    (fun _ h => ⟨rfl, h.2.2.1.2.2.2.2.1.1, fun e he => ⟨Nat.le_trans (h.2.2.1.2.2.2.2.1.2.1 e he).1 (by decide), Nat.le_trans (h.2.2.1.2.2.2.2.1.2.1 e he).2 (by decide)⟩, Nat.le_trans h.2.2.1.1 (by decide), h.1⟩)
theorem opEntries (W : World) : Opens Tryz.prog W 22 (fun p : Value × List Ent => [p.1]) (sliceC Tryz.prog W 50 7 entc (EntOk W (fun b => b < W.heap.size))) := Opens.slice Tryz.underlying22 (by kernel_rfl) (by decide) (opEntry W)
def batc (a : Ent) : List Value := [.string a.stream, .int .i64 a.expect, .int .i64 a.session, .int .i64 a.seq, a.evv]
theorem opBatch (W : World) : Opens Tryz.prog W 48 batc (fun a => EntOk W (fun b => b < W.heap.size) a ∧ a.pos = 0 ∧ a.epoch = 0) :=
  (Opens.struct Tryz.underlying48 (by kernel_rfl) (OpensFs.one (opStr W) rfl (by kernel_rfl) (OpensFs.one (opInt W) rfl (by kernel_rfl) (OpensFs.one (opInt W) rfl (by kernel_rfl) (OpensFs.one (opInt W) rfl (by kernel_rfl)
      (OpensFs.one (opEvs W) rfl (by kernel_rfl) OpensFs.nil)))))).as
    (fun p => ⟨0, 0, p.1, p.2.1, p.2.2.1, p.2.2.2.1, p.2.2.2.2.1.1, p.2.2.2.2.1.2⟩)
    (fun _ h => ⟨rfl, ⟨h.2.2.2.2.1.1, fun e he => ⟨Nat.le_trans (h.2.2.2.2.1.2.1 e he).1 (by decide), Nat.le_trans (h.2.2.2.2.1.2.1 e he).2 (by decide)⟩, Nat.le_trans h.1 (by decide), (show (-9223372036854775808 : Int) ≤ 0 by decide), (show (0 : Int) ≤ 9223372036854775807 by decide)⟩, rfl, rfl⟩)
end Go.Proofs.YthebmbhdlkldiaaGreatDoor

/- What the runtime hands over as a []bool. -/
namespace Go.Proofs.YthebmbhdlkldiaaGreatDoor
open Go.RowKit Go.Bl

theorem opBool (W : World) : Opens Tryz.prog W 4 (fun b : Bool => [.bool b]) (fun _ => True) := Opens.bool Tryz.underlying4
theorem opBools (W : World) : Opens Tryz.prog W 61 (fun p : Value × List Bool => [p.1]) (sliceC Tryz.prog W 4 1 (fun b : Bool => [.bool b]) (fun _ => True)) := Opens.slice Tryz.underlying61 (by kernel_rfl) (by decide) (opBool W)
end Go.Proofs.YthebmbhdlkldiaaGreatDoor

namespace Go.Proofs.YthebmbhdlkldiaaGreatDoor
open Go.ChangeShapes Go.WideShapes Go.ChangeAt Go.RowKit Go.Bl

theorem snapshotKeeps_witness (os : Os) {H : Type} (enc : TypeId × Value → H) : (OpenSpec.ofChange Rows.snapshotKeepsSpec).preRow enc Tryz.prog Tryz.f6 [] false [("unicode/utf8.acceptRanges", Rows.laid_unicode_utf8_acceptRanges), ("unicode/utf8.first", Rows.laid_unicode_utf8_first)] ((laidWorld os).forCall (fun _ _ => 0) ⟨#[], #[.int .i64 0, .slice none 0 0, .slice none 0 0, .slice none 0 0], []⟩).memory #[.int .i64 0, .slice none 0 0, .slice none 0 0, .slice none 0 0] :=
  OpenSpec.preRow_of_B rfl 8 (by kernel_rfl) (by kernel_rfl) (laid_met os _)

set_option maxRecDepth 100000 in
theorem snapshotKeeps_lifted (os : Os) (started : os.Started) (H : Type) (enc : TypeId × Value → H) (F : Stop.Interp) :
    ReturnsInHanded {} Tryz.checked os 6 .any ((OpenSpec.ofChange Rows.snapshotKeepsSpec).preRow enc Tryz.prog Tryz.f6 Rows.snapshotKeepsRow.domain false Rows.snapshotKeepsRow.laid) (((OpenSpec.ofChange Rows.snapshotKeepsSpec).at F).post enc Tryz.prog Tryz.f6 false true false false) := by
  refine law_row (C := Tryz.checked) own started (by kernel_rfl) Tryz.func6
    (witness_row_atRef (enc := enc) (C := Tryz.checked) false (laidWorld os) #[.int .i64 0, .slice none 0 0, .slice none 0 0, .slice none 0 0] rfl (by kernel_rfl) (by kernel_rfl) (by kernel_rfl) (snapshotKeeps_witness os enc))
    laidOut (by kernel_rfl) (by kernel_rfl) Tryz.underlying4 rfl (fun ds h => by match ds, h with | [_, _, _, _], _ => rfl) ?_
  intro W base args ds p hval0 hA0 hz0 hL
  have hT := tabs_of_laid hL
  have hval : ∀ (j : Nat) t v, Tryz.f6.params[j]? = some t → args[j]? = some v → Value.okWide Tryz.prog W .any base t v := hval0
  have hA : DataW.TrodAll enc Tryz.prog W 0 (fun _ => true) true Tryz.f6.params.toList args.toList ds p := hA0
  have hz : SizedEach Tryz.prog Tryz.f6.params.toList ds := hz0
  rw [Tryz.params6] at hA hval hz
  obtain ⟨v0, v1, v2, v3, d0, d1, d2, d3, p0, p1, p2, p3, rfl, rfl, rfl, h0, h1, h2, h3⟩ := trodAll_four hA
  obtain ⟨room, rfl, q0⟩ := arg_one (opInt W) h0 (fun n hn => hz n (by simp only [DataW.weightsEach, List.mem_append]; exact .inl hn)) (hval 0 3 v0 rfl rfl) (by simp [Tryz.underlying3]) (by simp [Tryz.underlying3])
  obtain ⟨⟨w1, l⟩, rfl, q1⟩ := arg_one (opEntries W) h1 (fun n hn => hz n (by simp only [DataW.weightsEach, List.mem_append]; exact .inr (.inl hn))) (hval 1 22 v1 rfl rfl) (by simp [Tryz.underlying22]) (by simp [Tryz.underlying22])
  obtain ⟨⟨w2, save⟩, rfl, q2⟩ := arg_one (opBools W) h2 (fun n hn => hz n (by simp only [DataW.weightsEach, List.mem_append]; exact .inr (.inr (.inl hn)))) (hval 2 61 v2 rfl rfl) (by simp [Tryz.underlying61]) (by simp [Tryz.underlying61])
  obtain ⟨⟨w3, keep⟩, rfl, q3⟩ := arg_one (opInts W) h3 (fun n hn => hz n (by simp only [DataW.weightsEach, List.mem_append]; exact .inr (.inr (.inr (.inl hn))))) (hval 3 62 v3 rfl rfl) (by simp [Tryz.underlying62]) (by simp [Tryz.underlying62])
  exact Dsk.keeps_any W hT room q0 v1 l ⟨q1.1, q1.2.1⟩ v2 save q2.1 v3 keep q3.1

theorem snapshotKeeps_row : Rows.SnapshotKeepsSaid :=
  OpenClaim.holds_of_cond 6 Tryz.f6 rfl rfl rfl rfl rfl rfl rfl ⟨rfl, rfl, rfl, rfl, rfl⟩ rfl rfl rfl rfl rfl (by kernel_rfl) Tryz.func6 (by kernel_rfl)
    (of_decide_eq_true (by kernel_rfl)) (by unfold Func.isWrapper; first | (rw [if_pos (by decide +kernel)]; kernel_rfl) | (rw [if_neg (by decide +kernel)]; exact ⟨rfl, rfl⟩))
    (fun os started H enc _ F0 => by rw [OpenClaim.pre_eq_preRow]; exact snapshotKeeps_lifted os started H enc F0)

theorem snapshotKeeps_holds : Rows.SnapshotKeepsCardSaid :=
  Claim7.holds_tied_plain_at .later [] [.data, .pinned] true Rows.snapshotKeepsCard.stood.harness Rows.snapshotKeepsCard.stood.looks
    snapshotKeeps_row (fun _ h => by cases h) (by kernel_rfl) (fun _ h => by cases h) snapshotKeeps_row_tie rfl ⟨rfl, rfl⟩ (by kernel_rfl) rfl
    (fun f fn hf hfn => by
      obtain rfl : f = 6 := (Option.some.inj ((show Tryz.prog.funcNamed "bucketline/bucketlinelaw16.SnapshotKeeps" = some 6 by kernel_rfl).symm.trans hf)).symm
      obtain rfl : fn = Tryz.f6 := (Option.some.inj (Tryz.func6.symm.trans hfn)).symm
      refine ⟨by kernel_rfl, fun j t ht => ?_⟩
      rw [Tryz.params6] at ht
      have hall : (#[3, 22, 61, 62] : Array TypeId).all (fun t => Tryz.prog.wantsStandIn t == false) = true := by kernel_rfl
      obtain ⟨hj, e⟩ := Array.getElem?_eq_some_iff.1 ht
      have := (Array.all_eq_true.1 hall) j hj
      rw [e] at this
      have h9 : Tryz.prog.wantsStandIn t = false := by simpa using this
      exact h9)
    (by kernel_rfl)
end Go.Proofs.YthebmbhdlkldiaaGreatDoor
