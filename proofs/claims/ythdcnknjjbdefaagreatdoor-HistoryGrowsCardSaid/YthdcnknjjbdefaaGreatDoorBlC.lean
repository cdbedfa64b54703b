/- From what the form reads of the arguments to lists and structures; the frame of a law's proof. Proved for every program; no condition. -/
import Derived.Test.YthdcnknjjbdefaaGreatDoorBlB
import Derived.ProofKit
import Derived.SizedLaws
import Derived.Deep.Slices
import Derived.Deep.Fields
namespace Go.Bl
open Go.RowKit Go.ChangeShapes Go.WideShapes Go.ChangeAt Go.Deep

/-- No text, slice or map of the datum is wider than the form's reach. -/
def Sized {H : Type} (P : Program) (t : TypeId) (d : DataW H) : Prop := ∀ n ∈ d.weights P t, n ≤ reachBytes
def SizedEach {H : Type} (P : Program) (ts : List TypeId) (ds : List (DataW H)) : Prop := ∀ n ∈ DataW.weightsEach P ts ds, n ≤ reachBytes

/-- Whatever is read of the type t is some 'a', written as the cells 'enc a', of which C holds. -/
def Opens {α : Type} (P : Program) (W : World) (t : TypeId) (enc : α → List Value) (C : α → Prop) : Prop :=
  ∀ (H : Type) (eH : TypeId × Value → H) (fuel : Nat) (cs : List Value) (x : DataW H × List MemPlace), DataW.trod eH P W 0 (fun _ => true) true fuel t cs = some x → Sized P t x.1 → ∃ a, cs = enc a ∧ C a

section
variable {P : Program} {W : World} {t : TypeId}
theorem Opens.int (ht : P.underlying t = some (.int .i64)) : Opens P W t (fun n : Int => [.int .i64 n]) (fun n => -9223372036854775808 ≤ n ∧ n ≤ 9223372036854775807) := by
  intro H eH fuel cs x h _
  obtain ⟨n, rfl, _, hw⟩ := DataW.trod_int ht h
  have h1 : IntKind.i64.min = -9223372036854775808 := rfl
  have h2 : IntKind.i64.max = 9223372036854775807 := rfl
  simp only [Lit.wf, h1, h2, Bool.and_eq_true, decide_eq_true_eq] at hw
  exact ⟨n, rfl, hw⟩
theorem Opens.u8 (ht : P.underlying t = some (.int .u8)) : Opens P W t (fun n : Int => [.int .u8 n]) (fun n => 0 ≤ n ∧ n ≤ 255) := by
  intro H eH fuel cs x h _
  obtain ⟨n, rfl, _, hw⟩ := DataW.trod_int ht h
  have h1 : IntKind.u8.min = 0 := rfl
  have h2 : IntKind.u8.max = 255 := rfl
  simp only [Lit.wf, h1, h2, Bool.and_eq_true, decide_eq_true_eq] at hw
  exact ⟨n, rfl, hw⟩
theorem Opens.bool (ht : P.underlying t = some .bool) : Opens P W t (fun b : Bool => [.bool b]) (fun _ => True) := by
  intro H eH fuel cs x h _
  obtain ⟨b, rfl, _⟩ := DataW.trod_bool ht h
  exact ⟨b, rfl, trivial⟩
theorem Opens.string (ht : P.underlying t = some .string) : Opens P W t (fun s : ByteArray => [.string s]) (fun s => s.size ≤ 140737488351232) := by
  intro H eH fuel cs x h hz
  obtain ⟨s, rfl, rfl, _⟩ := DataW.trod_string ht h
  refine ⟨s, rfl, ?_⟩
  have := hz s.data.toList.length (by simp [DataW.weights])
  rw [Array.length_toList] at this
  exact this

theorem spot_none {w : World} {a : Addr} {v : Value} (h : w.cell? a = some v) : a.spot = none := by
  unfold World.cell? at h
  split at h
  · split at h
    · cases h
    · rename_i hs; simpa using hs
  · cases h

theorem mem_weightsAll {H : Type} {e : TypeId} {d : DataW H} {n : Nat} (hn : n ∈ d.weights P e) : ∀ {l : List (DataW H)}, d ∈ l → n ∈ DataW.weightsAll P e l
  | [], h => by cases h
  | y :: l, h => by
    simp only [DataW.weightsAll, List.mem_append]
    rcases List.mem_cons.1 h with rfl | h
    · exact .inl hn
    · exact .inr (mem_weightsAll hn h)

/-- What is known of a slice that was read. -/
def sliceC {α : Type} (P : Program) (W : World) (e : TypeId) (k : Nat) (enc : α → List Value) (C : α → Prop) (p : Value × List α) : Prop :=
  Sl W (fun b => b < W.heap.size) k enc p.1 p.2 ∧ (∀ a ∈ p.2, C a) ∧ p.2.length * P.bytesOf e ≤ 140737488351232

theorem Opens.slice {α : Type} {e : TypeId} {k : Nat} {enc : α → List Value} {C : α → Prop} (ht : P.underlying t = some (.slice e)) (hC : P.cellsOf e = k) (hk : 0 < k) (h : Opens P W e enc C) :
    Opens P W t (fun p : Value × List α => [p.1]) (sliceC P W e k enc C) := by
  intro H eH fuel cs x hx hz
  rcases open_slice ht hx with ⟨rfl, _⟩ | ⟨a, len, cap, m, n, D, Pl, rfl, _, hl, hm, hmm, rfl, hi⟩
  · exact ⟨(.slice none 0 0, []), rfl, Sl.nil_ _ _ _ _, by simp, by simp⟩
  · simp only [if_true] at hmm
    have hz0 : len * P.bytesOf e ≤ 140737488351232 := by
      have := hz (((List.range len).map D).length + ((List.range (m - len)).map fun j => D (len + j)).length * 1 |> fun q => q * P.bytesOf e) (by simp [DataW.weights, ht])
      simp only [List.length_map, List.length_range, Nat.mul_one] at this
      refine Nat.le_trans (Nat.mul_le_mul_right _ ?_) this
      omega
    have hel : ∀ i, i < len → ∃ y : α, W.cells? 0 (a.add (i * k)) k = some (enc y) ∧ C y := by
      intro i hil
      obtain ⟨cs', h1, h2⟩ := hi i (by omega)
      rw [hC] at h1
      obtain ⟨y, rfl, hy⟩ := h H eH n cs' _ h2 (fun q hq => hz q (by
        simp only [DataW.weights, ht, List.mem_cons, List.mem_append]
        exact .inr (.inl (mem_weightsAll hq (List.mem_map.2 ⟨i, List.mem_range.2 hil, rfl⟩)))))
      exact ⟨y, h1, hy⟩
    by_cases h0 : len = 0
    · subst h0
      exact ⟨(.slice (some a) 0 cap, []), rfl, ⟨some a, cap, rfl, by simp, hm, by simp⟩, by simp, by simp⟩
    · obtain ⟨y0, _⟩ := hel 0 (by omega)
      have : Inhabited α := ⟨y0⟩
      obtain ⟨f, hf⟩ := choose_lt (n := len) (p := fun i y => W.cells? 0 (a.add (i * k)) k = some (enc y) ∧ C y) hel
      refine ⟨(.slice (some a) len cap, (List.range len).map f), rfl, ⟨some a, cap, by simp, by simpa using hl, hm, fun _ => ?_⟩, ?_, by simpa using hz0⟩
      · have hsp : ∀ i, i < len → ∀ j, j < k → W.cell? ((a.add (i * k)).add j) = (enc (f i))[j]? := fun i hil j hj => (World.cells?_some (hf i hil).1).2.2 j hj
        have hlen : ∀ i, i < len → (enc (f i)).length = k := fun i hil => (World.cells?_some (hf i hil).1).2.1
        have h00 := hsp 0 (by omega) 0 hk
        obtain ⟨u, hu⟩ : ∃ u, (enc (f 0))[0]? = some u := ⟨_, List.getElem?_eq_getElem (by rw [hlen 0 (by omega)]; exact hk)⟩
        rw [hu, Nat.zero_mul] at h00
        have ha : (a.add 0).add 0 = a := by simp [Addr.add]
        rw [ha] at h00
        have hspn := spot_none h00
        obtain ⟨b, o, sp⟩ := a
        simp only at hspn
        subst hspn
        refine ⟨b, o, rfl, World.block_lt_of_cell? W _ h00, World.block_lt_of_cell? W _ h00, fun i hil j u hu => ?_⟩
        simp only [List.length_map, List.length_range] at hil
        simp only [List.getElem_map, List.getElem_range] at hu
        have hj : j < k := by rw [← hlen i hil]; exact (List.getElem?_eq_some_iff.1 hu).1
        rw [← hu, ← hsp i hil j hj, Go.Deep.add_add]
        unfold Addr.add
        split
        · rename_i hz; rw [show o + i * k + j = o by omega]
        · rw [show o + i * k + j = o + (i * k + j) by omega]
      · intro y hy
        obtain ⟨i, hi, rfl⟩ := List.mem_map.1 hy
        exact (hf i (List.mem_range.1 hi)).2

/-- .. seen as another type. -/
theorem Opens.as {α β : Type} {enc : α → List Value} {C : α → Prop} {enc' : β → List Value} {C' : β → Prop} (h : Opens P W t enc C) (g : α → β) (hg : ∀ a, C a → enc a = enc' (g a) ∧ C' (g a)) : Opens P W t enc' C' := by
  intro H eH fuel cs x hx hz
  obtain ⟨a, rfl, ha⟩ := h H eH fuel cs x hx hz
  exact ⟨g a, (hg a ha).1, (hg a ha).2⟩

/-- The fields of a struct, from the cell o on, k cells. -/
def OpensFs {α : Type} (P : Program) (W : World) (fs : List Field) (o k : Nat) (enc : α → List Value) (C : α → Prop) : Prop :=
  ∀ (H : Type) (eH : TypeId × Value → H) (n : Nat) (cs : List Value) (xs : List (DataW H × List MemPlace)), cs.length = o + k → xs.length = fs.length →
    (∀ (i : Nat) (f : Field), fs[i]? = some f → DataW.trod eH P W 0 (fun _ => true) true n f.type ((cs.drop f.offset).take (P.cellsOf f.type)) = xs[i]?) →
    SizedEach P (fs.map (·.type)) (xs.map (·.1)) → ∃ a, cs.drop o = enc a ∧ C a
theorem OpensFs.nil {o : Nat} : OpensFs P W [] o 0 (fun _ : Unit => []) (fun _ => True) := by
  intro H eH n cs xs hc _ _ _
  exact ⟨(), List.drop_eq_nil_of_le (by omega), trivial⟩
theorem OpensFs.cons {α β : Type} {f : Field} {fs : List Field} {o k k' : Nat} {enc : α → List Value} {C : α → Prop} {enc' : β → List Value} {C' : β → Prop} (hf : Opens P W f.type enc C) (ho : f.offset = o) (hk : P.cellsOf f.type = k) (h : OpensFs P W fs (o + k) k' enc' C') :
    OpensFs P W (f :: fs) o (k + k') (fun p : α × β => enc p.1 ++ enc' p.2) (fun p => C p.1 ∧ C' p.2) := by
  intro H eH n cs xs hc hl hx hz
  match xs, hl with
  | x :: xs, hl =>
    have h0 := hx 0 f rfl
    rw [ho, hk] at h0
    obtain ⟨a, ha, hCa⟩ := hf H eH n _ x h0 (fun q hq => hz q (by
      simp only [List.map_cons, DataW.weightsEach, List.mem_append]
      exact .inl hq))
    obtain ⟨b, hb, hCb⟩ := h H eH n cs xs (by omega) (by simpa using hl) (fun i g hg => by simpa using hx (i + 1) g (by simpa using hg)) (fun q hq => hz q (by
      simp only [List.map_cons, DataW.weightsEach, List.mem_append]
      exact .inr hq))
    refine ⟨(a, b), ?_, hCa, hCb⟩
    show cs.drop o = enc a ++ enc' b
    rw [← ha, ← hb, ← List.drop_drop, List.take_append_drop]
/-- A field of one cell. -/
theorem OpensFs.one {α β : Type} {f : Field} {fs : List Field} {o k' : Nat} {enc : α → List Value} {C : α → Prop} {enc' : β → List Value} {C' : β → Prop} (hf : Opens P W f.type enc C) (ho : f.offset = o) (hk : P.cellsOf f.type = 1) (h : OpensFs P W fs (o + 1) k' enc' C') :
    OpensFs P W (f :: fs) o (1 + k') (fun p : α × β => enc p.1 ++ enc' p.2) (fun p => C p.1 ∧ C' p.2) := OpensFs.cons hf ho hk h
theorem Opens.struct {α : Type} {fs : Array Field} {k : Nat} {enc : α → List Value} {C : α → Prop} (ht : P.underlying t = some (.struct fs)) (hk : P.cellsOf t = k) (h : OpensFs P W fs.toList 0 k enc C) : Opens P W t enc C := by
  intro H eH fuel cs x hx hz
  obtain ⟨xs, n, _, rfl, hlen, hl, hf⟩ := DataW.trod_struct ht hx
  obtain ⟨a, ha, hC⟩ := h H eH n cs xs (by omega) (by simpa using hl) (fun i f hi => hf i f (by simpa using hi)) (fun q hq => hz q (by simpa [DataW.weights, ht] using hq))
  exact ⟨a, by simpa using ha, hC⟩
end

/-! ### an argument -/
theorem arg_open {α : Type} {P : Program} {W : World} {H : Type} {eH : TypeId × Value → H} {t : TypeId} {enc : α → List Value} {C : α → Prop} {v : Value} {d : DataW H} {p : List MemPlace} (h : Opens P W t enc C)
    (hT : DataW.Trod eH P W 0 (fun _ => true) true t v d p) (hz : Sized P t d) : ∃ a, v.cells.toList = enc a ∧ C a := by
  obtain ⟨fuel, hf⟩ := hT
  exact h H eH fuel _ _ hf hz
theorem one_of_cells {v u : Value} (h : v.cells.toList = [u]) (hv : ∀ cs, v ≠ .agg cs) : v = u := by
  cases v <;> simp [Value.cells] at h <;> first | exact h | exact absurd rfl (hv _)
theorem notAgg_of_okWide {P : Program} {W : World} {r : Reach} {b : Nat} {t : TypeId} {v : Value} (h : Value.okWide P W r b t v) (ht : ∀ fs, P.underlying t ≠ some (.struct fs)) (ht' : ∀ n e, P.underlying t ≠ some (.array n e)) : ∀ cs, v ≠ .agg cs := by
  rintro cs rfl
  unfold Value.okWide at h
  split at h
  · rename_i fs hf; exact ht _ hf
  · rename_i n e hf; exact ht' _ _ hf
  · unfold Cell.okWide at h
    split at h <;> simp_all [Cell.ok]
/-- An argument of one cell. -/
theorem arg_one {α : Type} {P : Program} {W : World} {H : Type} {eH : TypeId × Value → H} {t : TypeId} {f : α → Value} {C : α → Prop} {v : Value} {d : DataW H} {p : List MemPlace} {r : Reach} {b : Nat} (h : Opens P W t (fun a => [f a]) C)
    (hT : DataW.Trod eH P W 0 (fun _ => true) true t v d p) (hz : Sized P t d) (hok : Value.okWide P W r b t v) (ht : ∀ fs, P.underlying t ≠ some (.struct fs)) (ht' : ∀ n e, P.underlying t ≠ some (.array n e)) : ∃ a, v = f a ∧ C a := by
  obtain ⟨a, ha, hC⟩ := arg_open h hT hz
  exact ⟨a, one_of_cells ha (notAgg_of_okWide hok ht ht'), hC⟩

/-! ### the frame of a law's proof -/
theorem trodAll_below {H : Type} {eH : TypeId × Value → H} {P : Program} (hl : laidOutB P = true) {W W' : World} (hb : Below W.heap.size W W') :
    ∀ {ts : List TypeId} {vs : List Value} {ds : List (DataW H)} {p : List MemPlace}, (∀ t ∈ ts, P.readableRec t = true ∧ t < P.types.size) → (∀ x ∈ p, x.block < W.heap.size) →
      DataW.TrodAll eH P W 0 (fun _ => true) true ts vs ds p → DataW.TrodAll eH P W' 0 (fun b => decide (b < W.heap.size)) true ts vs ds p
  | [], [], [], _, _, _, h => h
  | t :: ts, v :: vs, d :: ds, ps, ht, hp, h => by
    obtain ⟨p, q, h1, h2, rfl⟩ := h
    exact ⟨p, q, RowKit.Below.trod hl (ht t (by simp)).1 (ht t (by simp)).2 h1 hb (fun x hx => hp x (by simp [hx])), trodAll_below hl hb (fun t h => ht t (by simp [h])) (fun x hx => hp x (by simp [hx])) h2, rfl⟩
  | [], _ :: _, _, _, _, _, h => h.elim
  | [], [], _ :: _, _, _, _, h => h.elim
  | _ :: _, [], _, _, _, _, h => h.elim
  | _ :: _, _ :: _, [], _, _, _, h => h.elim

/-- A law: it returns true and leaves what was there as it was. -/
theorem law_post {H : Type} {eH : TypeId × Value → H} {P : Program} {f : Func} {s : ChangeSpec} {fresh handsOn : Bool} {W W' : World} {args : Array Value} {ds : List (DataW H)} {p before : List MemPlace} {tb : TypeId}
    (hl : laidOutB P = true) (hrd : ∀ t ∈ f.params.toList, P.readableRec t = true ∧ t < P.types.size) (hres : f.resultTypes = #[tb]) (htb : P.underlying tb = some .bool) (hvars : s.vars = [])
    (hfn : s.fn H (ds ++ []) = { results := [.lit (.bool true)], args := ds })
    (hA : DataW.TrodAll eH P W 0 (fun _ => true) true f.params.toList args.toList ds p) (hbef : before = p ++ []) (hW : DataW.Whole eH P f.params.toList s.vars false W args.toList ds [] before) (hB : Below W.heap.size W W') :
    s.post eH P f false fresh handsOn false W args (.bool true) W' := by
  subst hbef
  have hlt := hW.lt
  refine ⟨ds, [], _, [], p, [], hW, ?_, ?_, ?_, hB.frame _, fun h => by cases h⟩
  · rw [hfn, hres]
    exact ⟨[], [], shut_bool htb true, rfl, rfl⟩
  · rw [hfn]
    exact trodAll_below hl hB hrd (fun x hx => hlt x (by simp [hx])) hA
  · rw [hvars, hfn]
    exact rfl

theorem trodAll_len {H : Type} {eH : TypeId × Value → H} {P : Program} {W : World} {b : Nat} {sp : Nat → Bool} {hd : Bool} : ∀ {ts : List TypeId} {vs : List Value} {ds : List (DataW H)} {p : List MemPlace}, DataW.TrodAll eH P W b sp hd ts vs ds p → ds.length = ts.length
  | [], [], [], _, _ => rfl
  | _ :: _, _ :: _, _ :: _, _, h => by
    obtain ⟨p, q, _, h2, _⟩ := h
    simp [trodAll_len h2]
  | [], _ :: _, _, _, h => h.elim
  | [], [], _ :: _, _, h => h.elim
  | _ :: _, [], _, _, h => h.elim
  | _ :: _, _ :: _, [], _, h => h.elim

theorem law_lifted {C : Checked} {os : Os} {f : FuncId} {fn : Func} {s : ChangeSpec} {H : Type} {eH : TypeId × Value → H} {tb : TypeId} {fresh handsOn : Bool}
    (own : ownKnob C.prog.godebug = none) (started : os.Started) (noInit : C.prog.inits.idxOf? f = none) (hfn : C.prog.funcs[f]? = some fn)
    (witness : ∃ (w : World) (tape : Tape) (i : Input), w.os = os ∧ (w.forCall tape i).Shaped C.prog ∧ i.vars = [] ∧ Input.okWide C.prog (w.forCall tape i) .any w.heap.size f i ∧
      s.pre6 eH C.prog fn [] false (w.forCall tape i).memory i.args ∧ ({} : Assume).holds C.prog (lone (Frame.enter C.prog f i.args .normal) [] (w.forCall tape i)))
    (hl : laidOutB C.prog = true) (hrd : (fn.params.toList.all fun t => C.prog.readableRec t && decide (t < C.prog.types.size)) = true) (hres : fn.resultTypes = #[tb]) (htb : C.prog.underlying tb = some .bool) (hvars : s.vars = [])
    (hspec : ∀ ds : List (DataW H), ds.length = fn.params.toList.length → s.fn H (ds ++ []) = { results := [.lit (.bool true)], args := ds })
    (contract : ∀ (W : World) (base : Nat) (args : Array Value) (ds : List (DataW H)) (p : List MemPlace),
      (∀ (j : Nat) t v, fn.params[j]? = some t → args[j]? = some v → Value.okWide C.prog W .any base t v) →
      DataW.TrodAll eH C.prog W 0 (fun _ => true) true fn.params.toList args.toList ds p → SizedEach C.prog fn.params.toList ds →
      Calls C.prog f args W fun e W' => e = .returned (.bool true) ∧ Below W.heap.size W W') :
    ReturnsInHanded {} C os f .any (s.pre6 eH C.prog fn [] false) (s.post eH C.prog fn false fresh handsOn false) := by
  refine returnsInHanded_of_change_sized own started noInit hfn witness ?_
  intro W base args ds gs before hval hW _ hsz _
  have hW' := hW
  obtain ⟨p, q, hA, hV, hbef, hfz, hnd⟩ := hW
  rw [hvars] at hV
  obtain ⟨rfl, rfl⟩ : gs = [] ∧ q = [] := by
    cases gs with
    | nil => exact ⟨rfl, hV⟩
    | cons g gs => exact hV.elim
  have hvt : s.plain.varTypes C.prog = [] := by unfold DataSpec.varTypes; rw [show s.plain.vars = s.vars from rfl, hvars]; rfl
  have hz : SizedEach C.prog fn.params.toList ds := fun n hn => by
    rw [hvt, List.append_nil, List.append_nil] at hsz
    simpa using List.all_eq_true.1 hsz n hn
  refine (contract W base args ds p hval hA hz).mono fun e W' ⟨he, hB⟩ => ?_
  subst he
  exact ⟨_, rfl, law_post hl (fun t ht => by simpa using List.all_eq_true.1 hrd t ht) hres htb hvars (hspec ds (trodAll_len hA)) hA hbef hW' hB⟩
end Go.Bl
