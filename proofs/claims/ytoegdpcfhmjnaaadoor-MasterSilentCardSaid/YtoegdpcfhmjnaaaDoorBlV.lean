/- The frame of a law's proof where package-level variables are listed with what they hold. Proved for every program; no condition. -/
import Derived.Test.YtoegdpcfhmjnaaaDoorBlC
import Derived.Deep.DeepHandedRow
import Derived.JoinedCond
namespace Go.Bl
open Go.RowKit

theorem law_row {C : Checked} {os : Os} {f : FuncId} {fn : Func} {s : ChangeSpec} {F : Stop.Interp} {H : Type} {eH : TypeId × Value → H} {tb : TypeId} {fresh handsOn : Bool} {laid : List (String × DataW Unit)}
    (own : ownKnob C.prog.godebug = none) (started : os.Started) (noInit : C.prog.inits.idxOf? f = none) (hfn : C.prog.funcs[f]? = some fn)
    (witness : ∃ (w : World) (tape : Tape) (i : Input), w.os = os ∧ (w.forCall tape i).Shaped C.prog ∧ i.vars = [] ∧ Input.okWide C.prog (w.forCall tape i) .any w.heap.size f i ∧
      (OpenSpec.ofChange s).preRow eH C.prog fn [] false laid (w.forCall tape i).memory i.args ∧ ({} : Assume).holds C.prog (lone (Frame.enter C.prog f i.args .normal) [] (w.forCall tape i)))
    (hl : laidOutB C.prog = true) (hrd : (fn.params.toList.all fun t => C.prog.readableRec t && decide (t < C.prog.types.size)) = true) (hres : fn.resultTypes = #[tb]) (htb : C.prog.underlying tb = some .bool) (hvars : s.vars = [])
    (hspec : ∀ ds : List (DataW H), ds.length = fn.params.toList.length → s.fn H (ds ++ []) = { results := [.lit (.bool true)], args := ds })
    (contract : ∀ (W : World) (base : Nat) (args : Array Value) (ds : List (DataW H)) (p : List MemPlace),
      (∀ (j : Nat) t v, fn.params[j]? = some t → args[j]? = some v → Value.okWide C.prog W .any base t v) →
      DataW.TrodAll eH C.prog W 0 (fun _ => true) true fn.params.toList args.toList ds p → SizedEach C.prog fn.params.toList ds → laidMetH C.prog laid W →
      Calls C.prog f args W fun e W' => e = .returned (.bool true) ∧ Below W.heap.size W W') :
    ReturnsInHanded {} C os f .any ((OpenSpec.ofChange s).preRow eH C.prog fn [] false laid) (((OpenSpec.ofChange s).at F).post eH C.prog fn false fresh handsOn false) := by
  refine returnsInHanded_of_row own started noInit hfn witness ?_
  intro W base args ds gs before hval hW _ _ hsz hL _ _
  have hW' := hW
  obtain ⟨p, q, hA, hV, hbef, hfz, hnd⟩ := hW
  have hv2 : (OpenSpec.ofChange s).vars = [] := hvars
  rw [hv2] at hV
  obtain ⟨rfl, rfl⟩ : gs = [] ∧ q = [] := by
    cases gs with
    | nil => exact ⟨rfl, hV⟩
    | cons g gs => exact hV.elim
  have hvt : (OpenSpec.ofChange s).bare.plain.varTypes C.prog = [] := by unfold DataSpec.varTypes; rw [show (OpenSpec.ofChange s).bare.plain.vars = s.vars from rfl, hvars]; rfl
  have hz : SizedEach C.prog fn.params.toList ds := fun n hn => by
    rw [hvt, List.append_nil, List.append_nil] at hsz
    simpa using List.all_eq_true.1 hsz n hn
  refine (contract W base args ds p hval hA hz hL).mono fun e W' ⟨he, hB⟩ => ?_
  subst he
  exact ⟨_, rfl, law_post (s := s) hl (fun t ht => by simpa using List.all_eq_true.1 hrd t ht) hres htb hvars (hspec ds (trodAll_len hA)) hA hbef hW' hB⟩
/-- An argument that is a struct. -/
theorem arg_agg {α : Type} {P : Program} {W : World} {H : Type} {eH : TypeId × Value → H} {t : TypeId} {enc : α → List Value} {C : α → Prop} {v : Value} {d : DataW H} {p : List MemPlace} {r : Reach} {b : Nat} {fs : Array Field} (h : Opens P W t enc C)
    (hT : DataW.Trod eH P W 0 (fun _ => true) true t v d p) (hz : Sized P t d) (hok : Value.okWide P W r b t v) (ht : P.underlying t = some (.struct fs)) : ∃ a, v = .agg (enc a).toArray ∧ C a := by
  obtain ⟨a, ha, hC⟩ := arg_open h hT hz
  unfold Value.okWide at hok
  rw [ht] at hok
  obtain ⟨cs, rfl, _⟩ := hok
  refine ⟨a, ?_, hC⟩
  rw [← ha]
  rfl
end Go.Bl
