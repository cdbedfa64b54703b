/- How an entry reads. No condition. -/
import Derived.Test.YthdcnknjjbdefaaGreatDoorBlC
import Derived.Deep.DeepHandedRow
import Derived.JoinedCond
import Derived.Test.YthdcnknjjbdefaaGreatDoorRows
import Derived.Test.YthdcnknjjbdefaaGreatDoorTie
import Derived.Test.YthdcnknjjbdefaaGreatDoorCards
import Derived.Test.YthdcnknjjbdefaaGreatDoorTxtA
import Derived.Lib.LaidIn
import Derived.Lib.LaidU8T
import Derived.Deep.DeepWitnessRowRef
import Derived.SevenTiedAt
import Derived.Test.YthdcnknjjbdefaaGreatDoorStaD
/- The frame of a law's proof where package-level variables are listed with what they hold. Proved for every program; no condition. -/
namespace Go.Bl
open Go.RowKit

theorem law_row {C : Checked} {os : Os} {f : FuncId} {fn : Func} {s : ChangeSpec} {F : Stop.Interp} {H : Type} {eH : TypeId × Value → H} {tb : TypeId} {fresh handsOn : Bool} {laid : List (String × DataW Unit)}
    (own : ownKnob C.prog.godebug = none) (started : os.Started) (noInit : C.prog.inits.idxOf? f = none) (hfn : C.prog.funcs[f]? = some fn)
    (witness : ∃ (w : World) (tape : Tape) (i : Input), w.os = os ∧ (w.forCall tape i).Shaped C.prog ∧ i.vars = [] ∧ Input.okWide C.prog (w.forCall tape i) .any w.heap.size f i ∧
      (OpenSpec.ofChange s).preRow eH C.prog fn [] false laid (w.forCall tape i).memory i.args ∧ ({} : Assume).holds C.prog (lone (Frame.enter C.prog f i.args .normal) [] (w.forCall tape i)))
    (hl : laidOutB C.prog = true) (hrd : (fn.params.toList.all fun t => C.prog.readableRec t && decide (t < C.prog.types.size)) = true) (hres : fn.resultTypes = #[tb]) (htb : C.prog.underlying tb = some .bool) (hvars : s.vars = [])
    (hspec : ∀ ds : List (DataW H), ds.length = fn.params.toList.length → s.fn H (ds ++ []) = { results := [.lit (.bool true)], args := ds })
    (contract : ∀ (W : World) (base : Nat) (args : Array Value) (ds : List (DataW H)) (p : List MemPlace),
      (∀ (j : Nat) t v, fn.params[j]? = some t → args[j]? = some v → Value.okWide C.prog W .any base t v) →
      DataW.TrodAll eH C.prog W 0 (fun _ => true) true fn.params.toList args.toList ds p → SizedEach C.prog fn.params.toList ds → laidMetH C.prog laid W →
      Calls C.prog f args W fun e W' => e = .returned (.bool true) ∧ Below W.heap.size W W') :
    ReturnsInHanded {} C os f .any ((OpenSpec.ofChange s).preRow eH C.prog fn [] false laid) (((OpenSpec.ofChange s).at F).post eH C.prog fn false fresh handsOn false) := by
  refine returnsInHanded_of_row own started noInit hfn witness ?_
  intro W base args ds gs before hval hW _ _ hsz hL _ _
  have hW' := hW
  obtain ⟨p, q, hA, hV, hbef, hfz, hnd⟩ := hW
  have hv2 : (OpenSpec.ofChange s).vars = [] := hvars
  rw [hv2] at hV
  obtain ⟨rfl, rfl⟩ : gs = [] ∧ q = [] := by
    cases gs with
    | nil => exact ⟨rfl, hV⟩
    | cons g gs => exact hV.elim
  have hvt : (OpenSpec.ofChange s).bare.plain.varTypes C.prog = [] := by unfold DataSpec.varTypes; rw [show (OpenSpec.ofChange s).bare.plain.vars = s.vars from rfl, hvars]; rfl
  have hz : SizedEach C.prog fn.params.toList ds := fun n hn => by
    rw [hvt, List.append_nil, List.append_nil] at hsz
    simpa using List.all_eq_true.1 hsz n hn
  refine (contract W base args ds p hval hA hz hL).mono fun e W' ⟨he, hB⟩ => ?_
  subst he
  exact ⟨_, rfl, law_post (s := s) hl (fun t ht => by simpa using List.all_eq_true.1 hrd t ht) hres htb hvars (hspec ds (trodAll_len hA)) hA hbef hW' hB⟩
/-- An argument that is a struct. -/
theorem arg_agg {α : Type} {P : Program} {W : World} {H : Type} {eH : TypeId × Value → H} {t : TypeId} {enc : α → List Value} {C : α → Prop} {v : Value} {d : DataW H} {p : List MemPlace} {r : Reach} {b : Nat} {fs : Array Field} (h : Opens P W t enc C)
    (hT : DataW.Trod eH P W 0 (fun _ => true) true t v d p) (hz : Sized P t d) (hok : Value.okWide P W r b t v) (ht : P.underlying t = some (.struct fs)) : ∃ a, v = .agg (enc a).toArray ∧ C a := by
  obtain ⟨a, ha, hC⟩ := arg_open h hT hz
  unfold Value.okWide at hok
  rw [ht] at hok
  obtain ⟨cs, rfl, _⟩ := hok
  refine ⟨a, ?_, hC⟩
  rw [← ha]
  rfl
end Go.Bl

/- The tables of utf8 as the rows list them; a world that holds them. No condition. -/
namespace Go.Proofs.YthdcnknjjbdefaaGreatDoor
open Go.ChangeShapes Go.WideShapes Go.ChangeAt Go.RowKit Go.Bl Go.Shelf

theorem own : ownKnob Tryz.prog.godebug = none := by kernel_rfl
theorem laidOut : laidOutB Tryz.prog = true := by kernel_rfl
theorem opStr (W : World) : Opens Tryz.prog W 9 (fun s : ByteArray => [.string s]) (fun s => s.size ≤ 140737488351232) := Opens.string Tryz.underlying9
theorem opInt (W : World) : Opens Tryz.prog W 3 (fun n : Int => [.int .i64 n]) (fun n => -9223372036854775808 ≤ n ∧ n ≤ 9223372036854775807) := Opens.int Tryz.underlying3
theorem opInts (W : World) : Opens Tryz.prog W 43 (fun p : Value × List Int => [p.1]) (sliceC Tryz.prog W 3 1 (fun n : Int => [.int .i64 n]) (fun n => -9223372036854775808 ≤ n ∧ n ≤ 9223372036854775807)) := Opens.slice Tryz.underlying43 (by kernel_rfl) (by decide) (opInt W)
theorem eAccept : (Rows.laid_unicode_utf8_acceptRanges : DataW Unit) = Lib.acceptData := by kernel_rfl
theorem eFirst : Rows.laid_unicode_utf8_first = Lib.firstData := by kernel_rfl
theorem tabs_of_laid {W : World} (h : laidMetH Tryz.prog [("unicode/utf8.acceptRanges", Rows.laid_unicode_utf8_acceptRanges), ("unicode/utf8.first", Rows.laid_unicode_utf8_first)] W) : Tabs W := by
  rw [eAccept, eFirst] at h
  have h3 := Lib.laidMet.reads h (.tail _ (.head _))
  have h4 := Lib.laidMet.reads h (.head _)
  exact utf8Tabs_of_readsT (ρ := Tryz.lays197_ren) ⟨Tryz.lays197.t5, Tryz.lays197.t119, Tryz.lays197.t138, Tryz.lays197.t139⟩ ⟨by kernel_rfl, by kernel_rfl, by kernel_rfl, by kernel_rfl, by kernel_rfl, by kernel_rfl, by kernel_rfl⟩ h3 h4

/-- The settled world, the two tables holding what their initialisers lay. -/
noncomputable def laidWorld (os : Os) : World :=
  let w0 := World.holding Tryz.prog os ⟨#[], #[], []⟩
  let put (h : Array Obj) (g : Nat) (cs : Array Value) : Array Obj := h.modify g fun
    | .cells _ t frozen => .cells cs t frozen
    | o => o
  let h1 := put w0.heap (Tryz.lays197_ren.g 3) (Lib.firstTab.map fun z => Value.int .u8 z).toArray
  let h2 := put h1 (Tryz.lays197_ren.g 4) ((List.range 16).flatMap fun i => [Value.int .u8 (Lib.accLo i), Value.int .u8 (Lib.accHi i)]).toArray
  { w0 with heap := h2 }
theorem laid_met (os : Os) (args : Array Value) : laidMet Tryz.prog [("unicode/utf8.acceptRanges", Rows.laid_unicode_utf8_acceptRanges), ("unicode/utf8.first", Rows.laid_unicode_utf8_first)] ((laidWorld os).forCall (fun _ _ => 0) ⟨#[], args, []⟩).memory := by
  rw [eAccept, eFirst]
  exact (LaidIn.of_run (l := [("unicode/utf8.acceptRanges", Lib.acceptData), ("unicode/utf8.first", Lib.firstData)]) [Tryz.lays197_ren.g 4, Tryz.lays197_ren.g 3] 8 (by kernel_rfl) (by kernel_rfl) (by kernel_rfl) (by kernel_rfl)).met
end Go.Proofs.YthdcnknjjbdefaaGreatDoor

namespace Go.Proofs.YthdcnknjjbdefaaGreatDoor
open Go.ChangeShapes Go.WideShapes Go.ChangeAt Go.RowKit Go.Bl

theorem opEv (W : World) : Opens Tryz.prog W 68 evc (fun e => e.kind.size ≤ 140737488351232 ∧ e.data.size ≤ 140737488351232) :=
  (Opens.struct Tryz.underlying68 (by kernel_rfl) (OpensFs.one (opStr W) rfl (by kernel_rfl) (OpensFs.one (opStr W) rfl (by kernel_rfl) OpensFs.nil))).as (fun p => ⟨p.1, p.2.1⟩) (fun _ h => ⟨rfl, h.1, h.2.1⟩)
theorem opEvs (W : World) : Opens Tryz.prog W 30 (fun p : Value × List Ev => [p.1]) (sliceC Tryz.prog W 68 2 evc (fun e => e.kind.size ≤ 140737488351232 ∧ e.data.size ≤ 140737488351232)) := Opens.slice Tryz.underlying30 (by kernel_rfl) (by decide) (opEv W)
theorem opEntry (W : World) : Opens Tryz.prog W 55 entc (EntOk W (fun b => b < W.heap.size)) :=
  (Opens.struct Tryz.underlying55 (by kernel_rfl) (OpensFs.one (opInt W) rfl (by kernel_rfl) (OpensFs.one (opInt W) rfl (by kernel_rfl)
    (OpensFs.cons (k := 5) (Opens.struct Tryz.underlying32 (by kernel_rfl) (OpensFs.one (opStr W) rfl (by kernel_rfl) (OpensFs.one (opInt W) rfl (by kernel_rfl) (OpensFs.one (opInt W) rfl (by kernel_rfl) (OpensFs.one (opInt W) rfl (by kernel_rfl)
      (OpensFs.one (opEvs W) rfl (by kernel_rfl) OpensFs.nil)))))) rfl (by kernel_rfl) OpensFs.nil)))).as
    (fun p => ⟨p.1, p.2.1, p.2.2.1.1, p.2.2.1.2.1, p.2.2.1.2.2.1, p.2.2.1.2.2.2.1, p.2.2.1.2.2.2.2.1.1, p.2.2.1.2.2.2.2.1.2⟩)
    (fun _ h => ⟨rfl, h.2.2.1.2.2.2.2.1.1, fun e he => ⟨Nat.le_trans (h.2.2.1.2.2.2.2.1.2.1 e he).1 (by decide), Nat.le_trans (h.2.2.1.2.2.2.2.1.2.1 e he).2 (by decide)⟩, Nat.le_trans h.2.2.1.1 (by decide), h.1⟩)
theorem opEntries (W : World) : Opens Tryz.prog W 22 (fun p : Value × List Ent => [p.1]) (sliceC Tryz.prog W 55 7 entc (EntOk W (fun b => b < W.heap.size))) := Opens.slice Tryz.underlying22 (by kernel_rfl) (by decide) (opEntry W)
def batc (a : Ent) : List Value := [.string a.stream, .int .i64 a.expect, .int .i64 a.session, .int .i64 a.seq, a.evv]
theorem opBatch (W : World) : Opens Tryz.prog W 32 batc (fun a => EntOk W (fun b => b < W.heap.size) a ∧ a.pos = 0 ∧ a.epoch = 0) :=
  (Opens.struct Tryz.underlying32 (by kernel_rfl) (OpensFs.one (opStr W) rfl (by kernel_rfl) (OpensFs.one (opInt W) rfl (by kernel_rfl) (OpensFs.one (opInt W) rfl (by kernel_rfl) (OpensFs.one (opInt W) rfl (by kernel_rfl)
      (OpensFs.one (opEvs W) rfl (by kernel_rfl) OpensFs.nil)))))).as
    (fun p => ⟨0, 0, p.1, p.2.1, p.2.2.1, p.2.2.2.1, p.2.2.2.2.1.1, p.2.2.2.2.1.2⟩)
    (fun _ h => ⟨rfl, ⟨h.2.2.2.2.1.1, fun e he => ⟨Nat.le_trans (h.2.2.2.2.1.2.1 e he).1 (by decide), Nat.le_trans (h.2.2.2.2.1.2.1 e he).2 (by decide)⟩, Nat.le_trans h.1 (by decide), (show (-9223372036854775808 : Int) ≤ 0 by decide), (show (0 : Int) ≤ 9223372036854775807 by decide)⟩, rfl, rfl⟩)
end Go.Proofs.YthdcnknjjbdefaaGreatDoor
