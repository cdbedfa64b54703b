/- How an argument reads, and of what bulk it is at least; the frame of a law's proof under a bound on the bulk. No condition. -/
import Derived.Test.YthebmbhdlkldiaaGreatDoorRecO
namespace Go.Proofs.YthebmbhdlkldiaaGreatDoor
open Go.ChangeShapes Go.WideShapes Go.ChangeAt Go.RowKit Go.Bl Go.Deep

theorem bulk_pos {H : Type} (d : DataW H) : 1 ≤ Rows.uptoBulk d := by
  cases d with
  | lit l => cases l <;> simp [Rows.uptoBulk]
  | nil => simp [Rows.uptoBulk]
  | ptr d => simp [Rows.uptoBulk]
  | slice elems spare => simp [Rows.uptoBulk]
  | agg parts => simp [Rows.uptoBulk]
  | iface t d => simp [Rows.uptoBulk]
  | map entries => simp [Rows.uptoBulk]
  | held h => simp [Rows.uptoBulk]
/-- Whatever is read of the type t is some 'a', written as the cells 'enc a', of which C holds; what was read is of bulk m a at least. -/
def OpensM {α : Type} (P : Program) (W : World) (t : TypeId) (enc : α → List Value) (C : α → Prop) (m : α → Nat) : Prop :=
  ∀ (H : Type) (eH : TypeId × Value → H) (fuel : Nat) (cs : List Value) (x : DataW H × List MemPlace), DataW.trod eH P W 0 (fun _ => true) true fuel t cs = some x → Sized P t x.1 → ∃ a, cs = enc a ∧ C a ∧ m a ≤ Rows.uptoBulk x.1
section
variable {P : Program} {W : World} {t : TypeId}
theorem OpensM.of {α : Type} {enc : α → List Value} {C : α → Prop} (h : Opens P W t enc C) : OpensM P W t enc C (fun _ => 1) := by
  intro H eH fuel cs x hx hz
  obtain ⟨a, h1, h2⟩ := h H eH fuel cs x hx hz
  exact ⟨a, h1, h2, bulk_pos _⟩
theorem OpensM.string (ht : P.underlying t = some .string) : OpensM P W t (fun s : ByteArray => [.string s]) (fun s => s.size ≤ 140737488351232) (fun s => s.size + 1) := by
  intro H eH fuel cs x h hz
  obtain ⟨s, rfl, rfl, _⟩ := DataW.trod_string ht h
  refine ⟨s, rfl, ?_, ?_⟩
  · have := hz s.data.toList.length (by simp [DataW.weights])
    rw [Array.length_toList] at this
    exact this
  · simp only [Rows.uptoBulk, Array.length_toList]
    exact Nat.le_refl _
theorem bulk_sum {H : Type} {α : Type} (m : α → Nat) (f : Nat → α) (D : Nat → DataW H) : ∀ l : List Nat, (∀ i ∈ l, m (f i) ≤ Rows.uptoBulk (D i)) → ((l.map f).map m).sum ≤ Rows.uptoBulkAll (l.map D)
  | [], _ => by simp [Rows.uptoBulkAll]
  | i :: l, h => by
    have h1 := bulk_sum m f D l (fun j hj => h j (List.mem_cons_of_mem _ hj))
    have h2 := h i List.mem_cons_self
    simp only [List.map_cons, List.sum_cons, Rows.uptoBulkAll]
    omega
theorem OpensM.slice {α : Type} {e : TypeId} {k : Nat} {enc : α → List Value} {C : α → Prop} {m : α → Nat} (ht : P.underlying t = some (.slice e)) (hC : P.cellsOf e = k) (hk : 0 < k) (h : OpensM P W e enc C m) :
    OpensM P W t (fun p : Value × List α => [p.1]) (sliceC P W e k enc C) (fun p => (p.2.map m).sum + 1) := by
  intro H eH fuel cs x hx hz
  rcases open_slice ht hx with ⟨rfl, _⟩ | ⟨a, len, cap, mm, n, D, Pl, rfl, _, hl, hm, hmm, rfl, hi⟩
  · exact ⟨(.slice none 0 0, []), rfl, ⟨Sl.nil_ _ _ _ _, by simp, by simp⟩, by simpa using bulk_pos _⟩
  · simp only [if_true] at hmm
    have hz0 : len * P.bytesOf e ≤ 140737488351232 := by
      have := hz (((List.range len).map D).length + ((List.range (mm - len)).map fun j => D (len + j)).length * 1 |> fun q => q * P.bytesOf e) (by simp [DataW.weights, ht])
      simp only [List.length_map, List.length_range, Nat.mul_one] at this
      refine Nat.le_trans (Nat.mul_le_mul_right _ ?_) this
      omega
    have hel : ∀ i, i < len → ∃ y : α, W.cells? 0 (a.add (i * k)) k = some (enc y) ∧ C y ∧ m y ≤ Rows.uptoBulk (D i) := by
      intro i hil
      obtain ⟨cs', h1, h2⟩ := hi i (by omega)
      rw [hC] at h1
      obtain ⟨y, rfl, hy⟩ := h H eH n cs' _ h2 (fun q hq => hz q (by
        simp only [DataW.weights, ht, List.mem_cons, List.mem_append]
        exact .inr (.inl (mem_weightsAll hq (List.mem_map.2 ⟨i, List.mem_range.2 hil, rfl⟩)))))
      exact ⟨y, h1, hy⟩
    by_cases h0 : len = 0
    · subst h0
      exact ⟨(.slice (some a) 0 cap, []), rfl, ⟨⟨some a, cap, rfl, by simp, hm, by simp⟩, by simp, by simp⟩, by simpa using bulk_pos _⟩
    · obtain ⟨y0, _⟩ := hel 0 (by omega)
      have : Inhabited α := ⟨y0⟩
      obtain ⟨f, hf⟩ := choose_lt (n := len) (p := fun i y => W.cells? 0 (a.add (i * k)) k = some (enc y) ∧ C y ∧ m y ≤ Rows.uptoBulk (D i)) hel
      refine ⟨(.slice (some a) len cap, (List.range len).map f), rfl, ⟨⟨some a, cap, by simp, by simpa using hl, hm, fun _ => ?_⟩, ?_, by simpa using hz0⟩, ?_⟩
      · have hsp : ∀ i, i < len → ∀ j, j < k → W.cell? ((a.add (i * k)).add j) = (enc (f i))[j]? := fun i hil j hj => (World.cells?_some (hf i hil).1).2.2 j hj
        have hlen : ∀ i, i < len → (enc (f i)).length = k := fun i hil => (World.cells?_some (hf i hil).1).2.1
        have h00 := hsp 0 (by omega) 0 hk
        obtain ⟨u, hu⟩ : ∃ u, (enc (f 0))[0]? = some u := ⟨_, List.getElem?_eq_getElem (by rw [hlen 0 (by omega)]; exact hk)⟩
        rw [hu, Nat.zero_mul] at h00
        have ha : (a.add 0).add 0 = a := by simp [Addr.add]
        rw [ha] at h00
        have hspn := spot_none h00
        obtain ⟨b, o, sp⟩ := a
        simp only at hspn
        subst hspn
        refine ⟨b, o, rfl, World.block_lt_of_cell? W _ h00, World.block_lt_of_cell? W _ h00, fun i hil j u hu => ?_⟩
        simp only [List.length_map, List.length_range] at hil
        simp only [List.getElem_map, List.getElem_range] at hu
        have hj : j < k := by rw [← hlen i hil]; exact (List.getElem?_eq_some_iff.1 hu).1
        rw [← hu, ← hsp i hil j hj, Go.Deep.add_add]
        unfold Addr.add
        split
        · rename_i hz; rw [show o + i * k + j = o by omega]
        · rw [show o + i * k + j = o + (i * k + j) by omega]
      · intro y hy
        obtain ⟨i, hi, rfl⟩ := List.mem_map.1 hy
        exact (hf i (List.mem_range.1 hi)).2.1
      · have := bulk_sum m f D (List.range len) (fun i hi => (hf i (List.mem_range.1 hi)).2.2)
        simp only [Rows.uptoBulk]
        omega
theorem OpensM.as {α β : Type} {enc : α → List Value} {C : α → Prop} {m : α → Nat} {enc' : β → List Value} {C' : β → Prop} {m' : β → Nat} (h : OpensM P W t enc C m) (g : α → β) (hg : ∀ a, C a → enc a = enc' (g a) ∧ C' (g a) ∧ m' (g a) ≤ m a) : OpensM P W t enc' C' m' := by
  intro H eH fuel cs x hx hz
  obtain ⟨a, rfl, ha, hm⟩ := h H eH fuel cs x hx hz
  exact ⟨g a, (hg a ha).1, (hg a ha).2.1, Nat.le_trans (hg a ha).2.2 hm⟩
def OpensFsM {α : Type} (P : Program) (W : World) (fs : List Field) (o k : Nat) (enc : α → List Value) (C : α → Prop) (m : α → Nat) : Prop :=
  ∀ (H : Type) (eH : TypeId × Value → H) (n : Nat) (cs : List Value) (xs : List (DataW H × List MemPlace)), cs.length = o + k → xs.length = fs.length →
    (∀ (i : Nat) (f : Field), fs[i]? = some f → DataW.trod eH P W 0 (fun _ => true) true n f.type ((cs.drop f.offset).take (P.cellsOf f.type)) = xs[i]?) →
    SizedEach P (fs.map (·.type)) (xs.map (·.1)) → ∃ a, cs.drop o = enc a ∧ C a ∧ m a ≤ Rows.uptoBulkAll (xs.map (·.1))
theorem OpensFsM.nil {o : Nat} : OpensFsM P W [] o 0 (fun _ : Unit => []) (fun _ => True) (fun _ => 0) := by
  intro H eH n cs xs hc _ _ _
  exact ⟨(), List.drop_eq_nil_of_le (by omega), trivial, Nat.zero_le _⟩
theorem OpensFsM.cons {α β : Type} {f : Field} {fs : List Field} {o k k' : Nat} {enc : α → List Value} {C : α → Prop} {m : α → Nat} {enc' : β → List Value} {C' : β → Prop} {m' : β → Nat} (hf : OpensM P W f.type enc C m) (ho : f.offset = o) (hk : P.cellsOf f.type = k) (h : OpensFsM P W fs (o + k) k' enc' C' m') :
    OpensFsM P W (f :: fs) o (k + k') (fun p : α × β => enc p.1 ++ enc' p.2) (fun p => C p.1 ∧ C' p.2) (fun p => m p.1 + m' p.2) := by
  intro H eH n cs xs hc hl hx hz
  match xs, hl with
  | x :: xs, hl =>
    have h0 := hx 0 f rfl
    rw [ho, hk] at h0
    obtain ⟨a, ha, hCa, hma⟩ := hf H eH n _ x h0 (fun q hq => hz q (by
      simp only [List.map_cons, DataW.weightsEach, List.mem_append]
      exact .inl hq))
    obtain ⟨b, hb, hCb, hmb⟩ := h H eH n cs xs (by omega) (by simpa using hl) (fun i g hg => by simpa using hx (i + 1) g (by simpa using hg)) (fun q hq => hz q (by
      simp only [List.map_cons, DataW.weightsEach, List.mem_append]
      exact .inr hq))
    refine ⟨(a, b), ?_, ⟨hCa, hCb⟩, ?_⟩
    · show cs.drop o = enc a ++ enc' b
      rw [← ha, ← hb, ← List.drop_drop, List.take_append_drop]
    · simp only [List.map_cons, Rows.uptoBulkAll]
      omega
theorem OpensFsM.one {α β : Type} {f : Field} {fs : List Field} {o k' : Nat} {enc : α → List Value} {C : α → Prop} {m : α → Nat} {enc' : β → List Value} {C' : β → Prop} {m' : β → Nat} (hf : OpensM P W f.type enc C m) (ho : f.offset = o) (hk : P.cellsOf f.type = 1) (h : OpensFsM P W fs (o + 1) k' enc' C' m') :
    OpensFsM P W (f :: fs) o (1 + k') (fun p : α × β => enc p.1 ++ enc' p.2) (fun p => C p.1 ∧ C' p.2) (fun p => m p.1 + m' p.2) := OpensFsM.cons hf ho hk h
theorem OpensM.struct {α : Type} {fs : Array Field} {k : Nat} {enc : α → List Value} {C : α → Prop} {m : α → Nat} (ht : P.underlying t = some (.struct fs)) (hk : P.cellsOf t = k) (h : OpensFsM P W fs.toList 0 k enc C m) : OpensM P W t enc C (fun a => m a + 1) := by
  intro H eH fuel cs x hx hz
  obtain ⟨xs, n, _, rfl, hlen, hl, hf⟩ := DataW.trod_struct ht hx
  obtain ⟨a, ha, hC, hm⟩ := h H eH n cs xs (by omega) (by simpa using hl) (fun i f hi => hf i f (by simpa using hi)) (fun q hq => hz q (by simpa [DataW.weights, ht] using hq))
  refine ⟨a, by simpa using ha, hC, ?_⟩
  simp only [Rows.uptoBulk]
  omega
end
theorem arg_oneM {α : Type} {P : Program} {W : World} {H : Type} {eH : TypeId × Value → H} {t : TypeId} {f : α → Value} {C : α → Prop} {m : α → Nat} {v : Value} {d : DataW H} {p : List MemPlace} {r : Reach} {b : Nat} (h : OpensM P W t (fun a => [f a]) C m)
    (hT : DataW.Trod eH P W 0 (fun _ => true) true t v d p) (hz : Sized P t d) (hok : Value.okWide P W r b t v) (ht : ∀ fs, P.underlying t ≠ some (.struct fs)) (ht' : ∀ n e, P.underlying t ≠ some (.array n e)) : ∃ a, v = f a ∧ C a ∧ m a ≤ Rows.uptoBulk d := by
  obtain ⟨fuel, hf⟩ := hT
  obtain ⟨a, ha, hC, hm⟩ := h H eH fuel _ _ hf hz
  exact ⟨a, one_of_cells ha (notAgg_of_okWide hok ht ht'), hC, hm⟩

theorem law_upto {C : Checked} {os : Os} {f : FuncId} {fn : Func} {s : ChangeSpec} {F : Stop.Interp} {H : Type} {eH : TypeId × Value → H} {tb : TypeId} {fresh handsOn : Bool} {laid : List (String × DataW Unit)}
    (own : ownKnob C.prog.godebug = none) (started : os.Started) (noInit : C.prog.inits.idxOf? f = none) (hfn : C.prog.funcs[f]? = some fn)
    (witness : ∃ (w : World) (tape : Tape) (i : Input), w.os = os ∧ (w.forCall tape i).Shaped C.prog ∧ i.vars = [] ∧ Input.okWide C.prog (w.forCall tape i) .any w.heap.size f i ∧
      (Rows.OpenSpec.upto s).preRow eH C.prog fn [] false laid (w.forCall tape i).memory i.args ∧ ({} : Assume).holds C.prog (lone (Frame.enter C.prog f i.args .normal) [] (w.forCall tape i)))
    (hl : laidOutB C.prog = true) (hrd : (fn.params.toList.all fun t => C.prog.readableRec t && decide (t < C.prog.types.size)) = true) (hres : fn.resultTypes = #[tb]) (htb : C.prog.underlying tb = some .bool) (hvars : s.vars = [])
    (hspec : ∀ ds : List (DataW H), ds.length = fn.params.toList.length → s.fn H (ds ++ []) = { results := [.lit (.bool true)], args := ds })
    (contract : ∀ (W : World) (base : Nat) (args : Array Value) (ds : List (DataW H)) (p : List MemPlace),
      (∀ (j : Nat) t v, fn.params[j]? = some t → args[j]? = some v → Value.okWide C.prog W .any base t v) →
      DataW.TrodAll eH C.prog W 0 (fun _ => true) true fn.params.toList args.toList ds p → SizedEach C.prog fn.params.toList ds → laidMetH C.prog laid W → Rows.uptoBulkAll ds ≤ 1048576 →
      Calls C.prog f args W fun e W' => e = .returned (.bool true) ∧ Below W.heap.size W W') :
    ReturnsInHanded {} C os f .any ((Rows.OpenSpec.upto s).preRow eH C.prog fn [] false laid) (((Rows.OpenSpec.upto s).at F).post eH C.prog fn false fresh handsOn false) := by
  refine returnsInHanded_of_row own started noInit hfn witness ?_
  intro W base args ds gs before hval hW _ hk hsz hL _ _
  have hW' := hW
  obtain ⟨p, q, hA, hV, hbef, hfz, hnd⟩ := hW
  have hv2 : (Rows.OpenSpec.upto s).vars = [] := hvars
  rw [hv2] at hV
  obtain ⟨rfl, rfl⟩ : gs = [] ∧ q = [] := by
    cases gs with
    | nil => exact ⟨rfl, hV⟩
    | cons g gs => exact hV.elim
  have hvt : (Rows.OpenSpec.upto s).bare.plain.varTypes C.prog = [] := by unfold DataSpec.varTypes; rw [show (Rows.OpenSpec.upto s).bare.plain.vars = s.vars from rfl, hvars]; rfl
  have hz : SizedEach C.prog fn.params.toList ds := fun n hn => by
    rw [hvt, List.append_nil, List.append_nil] at hsz
    simpa using List.all_eq_true.1 hsz n hn
  have hb : Rows.uptoBulkAll ds ≤ 1048576 := by
    have h1 := hk Rows.uptoSmall rfl
    rw [List.append_nil] at h1
    exact of_decide_eq_true h1
  refine (contract W base args ds p hval hA hz hL hb).mono fun e W' ⟨he, hB⟩ => ?_
  subst he
  exact ⟨_, rfl, law_post (s := s) hl (fun t ht => by simpa using List.all_eq_true.1 hrd t ht) hres htb hvars (hspec ds (trodAll_len hA)) hA hbef hW' hB⟩

def mEv (e : Ev) : Nat := e.kind.size + e.data.size + 3
def mEnt (a : Ent) : Nat := a.stream.size + (a.evs.map mEv).sum + 8
theorem opStrM (W : World) : OpensM Tryz.prog W 9 (fun s : ByteArray => [.string s]) (fun s => s.size ≤ 140737488351232) (fun s => s.size + 1) := OpensM.string Tryz.underlying9
theorem opEvM (W : World) : OpensM Tryz.prog W 77 evc (fun e => e.kind.size ≤ 140737488351232 ∧ e.data.size ≤ 140737488351232) mEv :=
  (OpensM.struct Tryz.underlying77 (by kernel_rfl) (OpensFsM.one (opStrM W) rfl (by kernel_rfl) (OpensFsM.one (opStrM W) rfl (by kernel_rfl) OpensFsM.nil))).as (fun p => ⟨p.1, p.2.1⟩) (fun p h => ⟨rfl, ⟨h.1, h.2.1⟩, by show p.1.size + p.2.1.size + 3 ≤ (p.1.size + 1 + (p.2.1.size + 1 + 0)) + 1; omega⟩)
theorem opEvsM (W : World) : OpensM Tryz.prog W 46 (fun p : Value × List Ev => [p.1]) (sliceC Tryz.prog W 77 2 evc (fun e => e.kind.size ≤ 140737488351232 ∧ e.data.size ≤ 140737488351232)) (fun p => (p.2.map mEv).sum + 1) := OpensM.slice Tryz.underlying46 (by kernel_rfl) (by decide) (opEvM W)
theorem opEntryM (W : World) : OpensM Tryz.prog W 50 entc (EntOk W (fun b => b < W.heap.size)) mEnt :=
  (OpensM.struct Tryz.underlying50 (by kernel_rfl) (OpensFsM.one (.of (opInt W)) rfl (by kernel_rfl) (OpensFsM.one (.of (opInt W)) rfl (by kernel_rfl)
    (OpensFsM.cons (k := 5) (OpensM.struct Tryz.underlying48 (by kernel_rfl) (OpensFsM.one (opStrM W) rfl (by kernel_rfl) (OpensFsM.one (.of (opInt W)) rfl (by kernel_rfl) (OpensFsM.one (.of (opInt W)) rfl (by kernel_rfl) (OpensFsM.one (.of (opInt W)) rfl (by kernel_rfl)
      (OpensFsM.one (opEvsM W) rfl (by kernel_rfl) OpensFsM.nil)))))) rfl (by kernel_rfl) OpensFsM.nil)))).as
    (fun p => ⟨p.1, p.2.1, p.2.2.1.1, p.2.2.1.2.1, p.2.2.1.2.2.1, p.2.2.1.2.2.2.1, p.2.2.1.2.2.2.2.1.1, p.2.2.1.2.2.2.2.1.2⟩)
    (fun p h => ⟨rfl, ⟨h.2.2.1.2.2.2.2.1.1, fun e he => ⟨Nat.le_trans (h.2.2.1.2.2.2.2.1.2.1 e he).1 (by decide), Nat.le_trans (h.2.2.1.2.2.2.2.1.2.1 e he).2 (by decide)⟩, Nat.le_trans h.2.2.1.1 (by decide), h.1⟩, by
      show p.2.2.1.1.size + (p.2.2.1.2.2.2.2.1.2.map mEv).sum + 8 ≤ 1 + (1 + ((p.2.2.1.1.size + 1 + (1 + (1 + (1 + ((p.2.2.1.2.2.2.2.1.2.map mEv).sum + 1 + 0))))) + 1 + 0)) + 1
      omega⟩)
theorem opEntriesM (W : World) : OpensM Tryz.prog W 22 (fun p : Value × List Ent => [p.1]) (sliceC Tryz.prog W 50 7 entc (EntOk W (fun b => b < W.heap.size))) (fun p => (p.2.map mEnt).sum + 1) := OpensM.slice Tryz.underlying22 (by kernel_rfl) (by decide) (opEntryM W)
end Go.Proofs.YthebmbhdlkldiaaGreatDoor
