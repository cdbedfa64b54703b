/- A row of Open: two rows grow in a region. Under the stated premises on sizes. -/
import Derived.Test.YtoegdpcfhmjnaaaGreatDoorMstG
import Derived.Test.YtoegdpcfhmjnaaaGreatDoorMstE
import Derived.Test.YtoegdpcfhmjnaaaGreatDoorVwD
import Derived.Test.YtoegdpcfhmjnaaaGreatDoorVwF
/- What is in memory of a master while a view goes in its place. Under the stated premises on sizes. -/
namespace Go.Proofs.YtoegdpcfhmjnaaaGreatDoor
open Go.RowKit Go.Bl
attribute [local go_sem ↓] Go.wp_at_zero Go.wp_at_succ

/-- A master in memory, whatever its maps say. -/
structure MstR (X : Nat → Prop) (w : World) (m p : Nat) (room fail : Int) (vs : List Vw) (v : Vw) (c : Nat) (Y F : Nat → Prop) (bh br : Nat) (va vb vc : Value) (gh gr : Int → Option Value) : Prop where
  disk : Qd Y w p (mvD room vs)
  lx : ∀ k, k < 2 → X k
  xy : ∀ k, X k → Y k
  ym : Y m ∧ Y bh ∧ Y br
  yf : ∀ k, F k → Y k
  xm : ¬ X m ∧ ¬ X bh ∧ ¬ X br
  fm : ¬ F m ∧ ¬ F bh ∧ ¬ F br
  hne : bh ≠ br
  blk : w.heap[m]? = some (.cells #[.pointer (some ⟨p, 0, none⟩), .int .i64 v.ep, va, vb, vc, .int .i64 fail, .map (some bh), .map (some br)] 89 (0, 0))
  sl : VwSl w F v.L va vb vc
  heard : MapI w bh gh c
  ready : MapI w br gr c
  ups : VsUp 0 vs
  ne : vs ≠ []
  lenv : vs.length ≤ 21
  last : lastV noV vs = v
  right : RightV v
  xf : ∀ k, X k → ¬ F k
section
variable {X : Nat → Prop} {w w' : World} {m p : Nat} {room fail : Int} {vs : List Vw} {v : Vw} {s : Ms} {c : Nat} {Y F : Nat → Prop} {bh br : Nat} {va vb vc : Value} {gh gr : Int → Option Value}
theorem MstIn.raw (h : MstIn X w m p room fail vs s c Y F bh br va vb vc) : MstR X w m p room fail vs s.v c Y F bh br va vb vc (hdF s) (rdF s) :=
  ⟨h.disk, h.lx, h.xy, h.ym, h.yf, h.xm, h.fm, h.hne, h.blk, h.sl, h.heard, h.ready, h.ups, h.ne, h.lenv, h.last, h.right, h.xf⟩
theorem MstR.mst (h : MstR X w m p room fail vs s.v c Y F bh br va vb vc gh gr) (hh : ∀ x, gh x = hdF s x) (hr : ∀ x, gr x = rdF s x) (h0 : ∀ x, 0 ≤ s.rd x) : MstIn X w m p room fail vs s c Y F bh br va vb vc :=
  ⟨h.disk, h.lx, h.xy, h.ym, h.yf, h.xm, h.fm, h.hne, h.blk, h.sl, h.heard.congr hh, h.ready.congr hr, h.ups, h.ne, h.lenv, h.last, h.right, h0, h.xf⟩
theorem MstR.fresh (h : MstR X w m p room fail vs v c Y F bh br va vb vc gh gr) (hB : Below w.heap.size w w') : MstR X w' m p room fail vs v c Y F bh br va vb vc gh gr :=
  { h with disk := h.disk.fresh hB, blk := (hB.block m (Array.getElem?_eq_some_iff.1 h.blk).1).trans h.blk, sl := h.sl.fresh hB, heard := h.heard.keep (Keeps.of_fresh hB fun _ => False) id, ready := h.ready.keep (Keeps.of_fresh hB fun _ => False) id }
theorem MstR.lt (h : MstR X w m p room fail vs v c Y F bh br va vb vc gh gr) : m < w.heap.size := (Array.getElem?_eq_some_iff.1 h.blk).1
theorem MstR.mh (h : MstR X w m p room fail vs v c Y F bh br va vb vc gh gr) : m ≠ bh := fun e => by
  obtain ⟨n, _, D, ⟨es, cl, h1, _⟩, _⟩ := h.heard
  have := h.blk
  rw [e, h1] at this
  cases this
theorem MstR.mr (h : MstR X w m p room fail vs v c Y F bh br va vb vc gh gr) : m ≠ br := fun e => by
  obtain ⟨n, _, D, ⟨es, cl, h1, _⟩, _⟩ := h.ready
  have := h.blk
  rw [e, h1] at this
  cases this
theorem MstR.two (h : MstR X w m p room fail vs v c Y F bh br va vb vc gh gr) : 2 ≤ m ∧ 2 ≤ bh ∧ 2 ≤ br := by
  have h1 := h.lx
  obtain ⟨a, b, d⟩ := h.xm
  exact ⟨Nat.le_of_not_lt fun e => a (h1 m e), Nat.le_of_not_lt fun e => b (h1 bh e), Nat.le_of_not_lt fun e => d (h1 br e)⟩
theorem MstR.cells (h : MstR X w m p room fail vs v c Y F bh br va vb vc gh gr) : w.cell? ⟨m, 0, none⟩ = some (.pointer (some ⟨p, 0, none⟩)) ∧ w.cell? ⟨m, 1, none⟩ = some (.int .i64 v.ep) ∧ w.cell? ⟨m, 2, none⟩ = some va ∧ w.cell? ⟨m, 3, none⟩ = some vb ∧ w.cell? ⟨m, 4, none⟩ = some vc ∧
    w.cell? ⟨m, 5, none⟩ = some (.int .i64 fail) ∧ w.cell? ⟨m, 6, none⟩ = some (.map (some bh)) ∧ w.cell? ⟨m, 7, none⟩ = some (.map (some br)) :=
  ⟨cell_of_row w m 0 _ _ _ h.blk, cell_of_row w m 1 _ _ _ h.blk, cell_of_row w m 2 _ _ _ h.blk, cell_of_row w m 3 _ _ _ h.blk, cell_of_row w m 4 _ _ _ h.blk, cell_of_row w m 5 _ _ _ h.blk, cell_of_row w m 6 _ _ _ h.blk, cell_of_row w m 7 _ _ _ h.blk⟩
/-- One of the maps is another one. -/
theorem MstR.map_heard {g' : Int → Option Value} {c' : Nat} (h : MstR X w m p room fail vs v c Y F bh br va vb vc gh gr) (hc : c ≤ c') (h2 : MapI w' bh g' c') (h3 : Keeps (fun k => k = bh) w w') : MstR X w' m p room fail vs v c' Y F bh br va vb vc g' gr :=
  { h with
    disk := h.disk.write h3 (fun k e => by rw [show k = bh from e]; exact ⟨h.ym.2.1, h.two.2.1⟩)
    blk := (h3.block m h.lt h.mh).trans h.blk
    sl := h.sl.keep h3 (fun k _ h1 e => h.fm.2.1 (by have e2 : k = bh := e; exact e2 ▸ h1))
    heard := h2
    ready := (h.ready.keep h3 (fun e => h.hne (show br = bh from e).symm)).more hc }
theorem MstR.map_ready {g' : Int → Option Value} {c' : Nat} (h : MstR X w m p room fail vs v c Y F bh br va vb vc gh gr) (hc : c ≤ c') (h2 : MapI w' br g' c') (h3 : Keeps (fun k => k = br) w w') : MstR X w' m p room fail vs v c' Y F bh br va vb vc gh g' :=
  { h with
    disk := h.disk.write h3 (fun k e => by rw [show k = br from e]; exact ⟨h.ym.2.2, h.two.2.2⟩)
    blk := (h3.block m h.lt h.mr).trans h.blk
    sl := h.sl.keep h3 (fun k _ h1 e => h.fm.2.2 (by have e2 : k = br := e; exact e2 ▸ h1))
    heard := (h.heard.keep h3 (fun e => h.hne (show bh = br from e))).more hc
    ready := h2 }
theorem MstR.del_heard (h : MstR X w m p room fail vs v c Y F bh br va vb vc gh gr) {x : Int} (hx : i64 x) (ty : TypeId) :
    ∃ w', (Builtin.delete_ #[87, 3] ty #[.map (some bh), .int .i64 x]).run Tryz.prog w = .ok (.tuple #[]) w' ∧ MstR X w' m p room fail vs v c Y F bh br va vb vc (fun y => if y = x then none else gh y) gr ∧ Keeps (fun k => k = bh) w w' ∧ w'.heap.size = w.heap.size := by
  obtain ⟨w', hr, h2, h3, h4⟩ := h.heard.delete hx ty
  exact ⟨w', hr, h.map_heard (Nat.le_refl _) h2 h3, h3, h4⟩
theorem MstR.del_ready (h : MstR X w m p room fail vs v c Y F bh br va vb vc gh gr) {x : Int} (hx : i64 x) (ty : TypeId) :
    ∃ w', (Builtin.delete_ #[87, 3] ty #[.map (some br), .int .i64 x]).run Tryz.prog w = .ok (.tuple #[]) w' ∧ MstR X w' m p room fail vs v c Y F bh br va vb vc gh (fun y => if y = x then none else gr y) ∧ Keeps (fun k => k = br) w w' ∧ w'.heap.size = w.heap.size := by
  obtain ⟨w', hr, h2, h3, h4⟩ := h.ready.delete hx ty
  exact ⟨w', hr, h.map_ready (Nat.le_refl _) h2 h3, h3, h4⟩
theorem MstR.put_heard (h : MstR X w m p room fail vs v c Y F bh br va vb vc gh gr) (hc : c < 1000000000) {x : Int} (hx : i64 x) (val : Value) :
    ∃ w', (Instr.mapUpdate 87 (.map (some bh)) (.int .i64 x) val).run Tryz.prog w = .ok () w' ∧ MstR X w' m p room fail vs v (c + 1) Y F bh br va vb vc (fun y => if y = x then some val else gh y) gr ∧ Keeps (fun k => k = bh) w w' ∧ w'.heap.size = w.heap.size := by
  obtain ⟨w', hr, h2, h3, h4⟩ := h.heard.store hc hx val
  exact ⟨w', hr, h.map_heard (Nat.le_succ _) h2 h3, h3, h4⟩
/-- What is new is kept from the disk as well. -/
theorem MstR.wide (h : MstR X w m p room fail vs v c Y F bh br va vb vc gh gr) (hB : Below w.heap.size w w') : Qd (fun k => Y k ∨ (w.heap.size ≤ k ∧ k < w'.heap.size)) w' p (mvD room vs) :=
  h.disk.more hB (fun _ hk => hk.imp id And.left) (fun k hk => hk.elim (fun hk => Nat.lt_of_lt_of_le (h.disk.hX k hk) hB.size) And.right) (fun k hk => .inl (h.disk.low k hk))
/-- Blocks beside the master are written, and new ones come. -/
theorem MstR.grow {X' G : Nat → Prop} (h : MstR X w m p room fail vs v c Y F bh br va vb vc gh gr) (hk : Keeps G w w') (hG : ∀ k, G k → Y k ∧ 2 ≤ k ∧ k ≠ m ∧ k ≠ bh ∧ k ≠ br ∧ ¬ F k) (hX : ∀ k, X' k → X k ∨ (w.heap.size ≤ k ∧ k < w'.heap.size)) (hl : ∀ k, k < 2 → X' k) :
    MstR X' w' m p room fail vs v c (fun k => Y k ∨ (w.heap.size ≤ k ∧ k < w'.heap.size)) F bh br va vb vc gh gr := by
  have hlt := h.lt
  have hlh := h.heard.lt
  have hlr := h.ready.lt
  have hno : ∀ k, k < w.heap.size → ¬ X k → ¬ X' k := fun k hk hx hx' => (hX k hx').elim hx fun h2 => by omega
  have hk2 := hk.mono (G' := fun k => Y k ∨ (w.heap.size ≤ k ∧ k < w'.heap.size)) fun k _ h1 => .inl (hG k h1).1
  exact { h with
    disk := ⟨h.disk.tabs.keep hk (fun k h1 => (hG k h1).2.1) h.disk.tabs.lt, fun k hk => .inl (h.disk.low k hk), fun k hk => hk.elim (fun hk1 => Nat.lt_of_lt_of_le (h.disk.hX k hk1) hk2.size) And.right, (h.disk.disk.more fun k hk => hk.imp id And.left).keep hk2⟩
    lx := hl
    xy := fun k hk => (hX k hk).imp (h.xy k) id
    ym := ⟨.inl h.ym.1, .inl h.ym.2.1, .inl h.ym.2.2⟩
    yf := fun k hk => .inl (h.yf k hk)
    xm := ⟨hno m hlt h.xm.1, hno bh hlh h.xm.2.1, hno br hlr h.xm.2.2⟩
    xf := fun k hk hf => (hX k hk).elim (fun h2 => h.xf k h2 hf) (fun h2 => by have := h.disk.hX k (h.yf k hf); omega)
    blk := (hk.block m hlt fun e => (hG m e).2.2.1 rfl).trans h.blk
    sl := h.sl.keep hk fun k _ h1 h2 => (hG k h2).2.2.2.2.2 h1
    heard := h.heard.keep hk fun e => (hG bh e).2.2.2.1 rfl
    ready := h.ready.keep hk fun e => (hG br e).2.2.2.2.1 rfl }
/-- More may be kept away. -/
theorem MstR.beside {X' : Nat → Prop} (h : MstR X w m p room fail vs v c Y F bh br va vb vc gh gr) (hB : Below w.heap.size w w') (hX : ∀ k, X' k → X k ∨ (w.heap.size ≤ k ∧ k < w'.heap.size)) (hl : ∀ k, k < 2 → X' k) : MstR X' w' m p room fail vs v c (fun k => Y k ∨ (w.heap.size ≤ k ∧ k < w'.heap.size)) F bh br va vb vc gh gr := by
  have hlt := h.lt
  have hlh := h.heard.lt
  have hlr := h.ready.lt
  have hno : ∀ k, k < w.heap.size → ¬ X k → ¬ X' k := fun k hk hx hx' => (hX k hx').elim hx fun h2 => by omega
  exact { h.fresh hB with
    disk := h.wide hB
    lx := hl
    xy := fun k hk => (hX k hk).imp (h.xy k) id
    ym := ⟨.inl h.ym.1, .inl h.ym.2.1, .inl h.ym.2.2⟩
    yf := fun k hk => .inl (h.yf k hk)
    xm := ⟨hno m hlt h.xm.1, hno bh hlh h.xm.2.1, hno br hlr h.xm.2.2⟩
    xf := fun k hk hf => (hX k hk).elim (fun h2 => h.xf k h2 hf) (fun h2 => by have := h.disk.hX k (h.yf k hf); omega) }
end
theorem Mst.beside {X X' : Nat → Prop} {w w' : World} {m p : Nat} {room fail : Int} {vs : List Vw} {s : Ms} {c : Nat} (h : Mst X w m p room fail vs s c) (hB : Below w.heap.size w w') (hX : ∀ k, X' k → X k ∨ (w.heap.size ≤ k ∧ k < w'.heap.size)) (hl : ∀ k, k < 2 → X' k) : Mst X' w' m p room fail vs s c := by
  obtain ⟨Y, F, bh, br, va, vb, vc, h⟩ := h
  exact ⟨_, _, _, _, _, _, _, (h.raw.beside hB hX hl).mst (fun _ => rfl) (fun _ => rfl) h.rdge⟩
/-- A view that is kept goes in its place. -/
theorem MstR.turn {X : Nat → Prop} {w w1 w2 w3 : World} {m p : Nat} {room fail : Int} {vs : List Vw} {v v' : Vw} {c : Nat} {Y F : Nat → Prop} {bh br : Nat} {va vb vc a b d : Value} {gh gr : Int → Option Value} (h : MstR X w m p room fail vs v c Y F bh br va vb vc gh gr)
    (hB : Below w.heap.size w w1) (hV : VwSl w1 (fun k => w.heap.size ≤ k) v'.L a b d) (hr : RightV v') (hep : v.ep < v'.ep)
    (hQ : Qd (fun k => Y k ∨ (w.heap.size ≤ k ∧ k < w1.heap.size)) w2 p (mvD room (keepV vs v'))) (hK : Kx (fun k => Y k ∨ (w.heap.size ≤ k ∧ k < w1.heap.size)) w1 w2)
    (hst : Keeps (fun k => k = m) w2 w3) (hb : w3.heap[m]? = some (.cells #[.pointer (some ⟨p, 0, none⟩), .int .i64 v'.ep, a, b, d, .int .i64 fail, .map (some bh), .map (some br)] 89 (0, 0))) :
    MstR X w3 m p room fail (keepV vs v') v' c (fun k => Y k ∨ (w.heap.size ≤ k ∧ k < w1.heap.size)) (fun k => w.heap.size ≤ k ∧ k < w1.heap.size) bh br a b d gh gr := by
  have hlt := h.lt
  have hlh := h.heard.lt
  have hlr := h.ready.lt
  have h2m := h.two.1
  have hbm := h.mh
  have hrm := h.mr
  have hV1 : VwSl w1 (fun k => w.heap.size ≤ k ∧ k < w1.heap.size) v'.L a b d := hV.mono fun k h1 h2 => ⟨h2, h1⟩
  exact { h with
    disk := hQ.write hst (fun k e => by rw [show k = m from e]; exact ⟨.inl h.ym.1, h2m⟩)
    xy := fun k hk => .inl (h.xy k hk)
    ym := ⟨.inl h.ym.1, .inl h.ym.2.1, .inl h.ym.2.2⟩
    yf := fun k hk => .inr hk
    fm := ⟨fun e => by omega, fun e => by omega, fun e => by omega⟩
    blk := hb
    sl := (hV1.keep hK (fun k _ h1 h2 => h2 (.inr h1))).keep hst (fun k hk h1 h2 => by have e : k = m := h2; omega)
    heard := ((h.heard.keep (Keeps.of_fresh hB fun _ => False) id).keep hK (fun h2 => h2 (.inl h.ym.2.1))).keep hst (fun e => hbm (show bh = m from e).symm)
    ready := ((h.ready.keep (Keeps.of_fresh hB fun _ => False) id).keep hK (fun h2 => h2 (.inl h.ym.2.2))).keep hst (fun e => hrm (show br = m from e).symm)
    ups := keepV_up h.ups (by rw [show (⟨0, []⟩ : Vw) = noV from rfl, h.last]; exact hep) hr
    ne := keepV_ne _ _
    lenv := keepV_len _ _
    last := keepV_last _ _ _
    xf := fun k hk hf => by have := h.disk.hX k (h.xy k hk); have := hf.1; omega
    right := hr }
theorem hdF_out {s : Ms} {k : Int} (x : Int) : (if x = k then none else hdF s x) = hdF (s.out k) x := by
  show _ = if x ∈ (s.v.cutN k).nodes then some (Value.int .i64 (s.hd x)) else none
  unfold hdF
  by_cases e : x = k
  · rw [if_pos e, if_neg (fun h => ((cutN_nodes _ _ _).1 h).2 e)]
  · rw [if_neg e]
    by_cases h : x ∈ s.v.nodes
    · rw [if_pos h, if_pos ((cutN_nodes _ _ _).2 ⟨h, e⟩)]
    · rw [if_neg h, if_neg (fun h2 => h ((cutN_nodes _ _ _).1 h2).1)]
theorem rdF_out {s : Ms} {k : Int} (x : Int) : (if x = k then none else rdF s x) = rdF (s.out k) x := by
  show _ = if (if x = k then (0 : Int) else s.rd x) = 0 then none else some (Value.int .i64 (if x = k then (0 : Int) else s.rd x))
  unfold rdF
  by_cases e : x = k
  · rw [if_pos e, if_pos e, if_pos rfl]
  · rw [if_neg e, if_neg e]
theorem hdF_come {s : Ms} {k boot now : Int} (x : Int) : (if x = k then some (Value.int .i64 now) else hdF s x) = hdF (s.come k boot now) x := by
  show _ = if x ∈ (s.v.withN k boot).nodes then some (Value.int .i64 (if x = k then now else s.hd x)) else none
  unfold hdF
  by_cases e : x = k
  · rw [if_pos e, if_pos e, if_pos ((withN_nodes _ _ _ _).2 (.inr e))]
  · rw [if_neg e, if_neg e]
    by_cases h : x ∈ s.v.nodes
    · rw [if_pos h, if_pos ((withN_nodes _ _ _ _).2 (.inl h))]
    · rw [if_neg h, if_neg (fun h2 => ((withN_nodes _ _ _ _).1 h2).elim h e)]
/-- Four cells behind the first one are written. -/
theorem view_keeps (w : World) (m : Nat) (v0 v1 v2 v3 : Value) : Keeps (fun k => k = m) w ((((w.setCell ⟨m, 1, none⟩ v0).setCell ⟨m, 2, none⟩ v1).setCell ⟨m, 3, none⟩ v2).setCell ⟨m, 4, none⟩ v3) :=
  ((((Keeps.refl (fun k => k = m) w).setCell (p := ⟨m, 1, none⟩) (fun _ => rfl) v0).setCell (p := ⟨m, 2, none⟩) (fun _ => rfl) v1).setCell (p := ⟨m, 3, none⟩) (fun _ => rfl) v2).setCell (p := ⟨m, 4, none⟩) (fun _ => rfl) v3
theorem view_block {w : World} {m : Nat} {p a0 a1 a2 a3 f x y : Value} {t : TypeId} (h : w.heap[m]? = some (.cells #[p, a0, a1, a2, a3, f, x, y] t (0, 0))) (v0 v1 v2 v3 : Value) :
    ((((w.setCell ⟨m, 1, none⟩ v0).setCell ⟨m, 2, none⟩ v1).setCell ⟨m, 3, none⟩ v2).setCell ⟨m, 4, none⟩ v3).heap[m]? = some (.cells #[p, v0, v1, v2, v3, f, x, y] t (0, 0)) :=
  setCell_block (o := 4) (setCell_block (o := 3) (setCell_block (o := 2) (setCell_block (o := 1) h v0) v1) v2) v3
end Go.Proofs.YtoegdpcfhmjnaaaGreatDoor

/- Time goes by: a master's Tick. Under the stated premises on sizes. -/
namespace Go.Proofs.YtoegdpcfhmjnaaaGreatDoor
open Go.RowKit Go.Bl
attribute [local go_sem ↓] Go.wp_at_zero Go.wp_at_succ

/-- How many nodes stand in the master's view, as the memory says. -/
def chainLen (w : World) (m : Nat) : Nat := match w.cell? ⟨m, 2, none⟩ with | some (.slice _ n _) => n | _ => 0
/-- A round of Tick. -/
def TickR (X : Nat → Prop) (w : World) (m p : Nat) (room fail now : Int) (mb nb : Nat) (s0 : Ms) (c : Nat) (v : Value) (wr : World) : Prop :=
  ∃ (os : List OutE) (vs : List Vw) (s : Ms) (f : Nat), Mst (fun k => X k ∨ k = mb ∨ k = nb ∨ v.ownBlock = some k) wr m p room fail vs s c ∧ Go.Bl.Own wr (nb + 1) 41 2 outc v os ∧ (∀ o ∈ os, o.T = 122) ∧ wr.cell? ⟨mb, 0, none⟩ = some (.pointer (some ⟨m, 0, none⟩)) ∧ wr.cell? ⟨nb, 0, none⟩ = some (.int .i64 now) ∧ Kx X w wr ∧ Heard s now ∧ s0.tickF fail now s0.v.L.length = s.tickF fail now f ∧ s.v.L.length ≤ f ∧ os.length + 7 * s.v.L.length ≤ 42 ∧ s.v.ep + s.v.L.length < 274877906944 ∧ (2816 ≤ room ∨ 128 * ((vs.length : Int) + s.v.L.length) ≤ room)
theorem tickF_none {s : Ms} {fail now : Int} (h : s.v.nodes.find? (s.silent fail now) = none) : ∀ f, s.tickF fail now f = s
  | 0 => rfl
  | f + 1 => by unfold Ms.tickF; rw [h]
theorem tickF_some {s : Ms} {fail now x : Int} (h : s.v.nodes.find? (s.silent fail now) = some x) (he : s.v.ep ≠ 274877906944) (f : Nat) : s.tickF fail now (f + 1) = (s.out x).tickF fail now f := by
  rw [Ms.tickF, h]
  exact if_neg he
theorem Mst.less {X X' : Nat → Prop} {w : World} {m p : Nat} {room fail : Int} {vs : List Vw} {s : Ms} {c : Nat} (h : Mst X w m p room fail vs s c) (hX : ∀ k, X' k → X k) (hl : ∀ k, k < 2 → X' k) : Mst X' w m p room fail vs s c := by
  obtain ⟨Y, F, bh, br, va, vb, vc, h⟩ := h
  exact ⟨Y, F, bh, br, va, vb, vc, { h with lx := hl, xy := fun k hk => h.xy k (hX k hk), xf := fun k hk => h.xf k (hX k hk), xm := ⟨fun e => h.xm.1 (hX _ e), fun e => h.xm.2.1 (hX _ e), fun e => h.xm.2.2 (hX _ e)⟩ }⟩
theorem keepV_len1 (vs : List Vw) (v : Vw) : (keepV vs v).length ≤ vs.length + 1 := by unfold keepV; split <;> simp
theorem cut_len {v : Vw} {x : Int} (hr : RightV v) (hx : x ∈ v.nodes) : (v.cutN x).L.length + 1 = v.L.length := filter_ne_len hr.nodup hx
set_option maxRecDepth 20000 in
set_option maxHeartbeats 8000000 in
theorem tick_any {X : Nat → Prop} {w : World} {m p : Nat} {room fail : Int} {vs : List Vw} {s : Ms} {c : Nat} (h : Mst X w m p room fail vs s c) (now : Int) (hh : Heard s now) (hnow : now ≤ 1000000000000000) (hep : s.v.ep + s.v.L.length < 274877906944) (hroom : 2816 ≤ room ∨ 128 * ((vs.length : Int) + s.v.L.length) ≤ room) :
    Calls Tryz.prog 18 #[.pointer (some ⟨m, 0, none⟩), .int .i64 now] w fun e w' => ∃ v os vs', e = .returned v ∧ Sl w' (fun k => w.heap.size ≤ k) 2 outc v os ∧ (∀ o ∈ os, o.T = 122) ∧ Mst X w' m p room fail vs' (s.tickF fail now s.v.L.length) c ∧ Kx X w w' := by
  obtain ⟨W, hW⟩ : ∃ W, W = (w.alloc (.cells #[.pointer (some ⟨m, 0, none⟩)] 30)).alloc (.cells #[.int .i64 now] 3) := ⟨_, rfl⟩
  have hB0 : Below w.heap.size w W := hW ▸ ((Below.refl _ w).alloc (Nat.le_refl _) _).alloc (by simp) _
  obtain ⟨mb, hmb⟩ : ∃ mb, w.heap.size = mb := ⟨_, rfl⟩
  have hsz : W.heap.size = mb + 2 := by rw [hW, World.size_alloc, World.size_alloc, hmb]
  have hk0 : W.heap[mb]? = some (.cells #[.pointer (some ⟨m, 0, none⟩)] 30 (0, 0)) := by rw [hW, ← hmb]; exact (Below.heap_alloc _ _ _ (by simp)).trans (heap_alloc_new w _)
  have hk1 : W.heap[mb + 1]? = some (.cells #[.int .i64 now] 3 (0, 0)) := by
    have := heap_alloc_new (w.alloc (.cells #[.pointer (some ⟨m, 0, none⟩)] 30)) (.cells #[.int .i64 now] 3)
    rw [World.size_alloc, hmb] at this
    rw [hW]
    exact this
  have hlx : ∀ k, k < 2 → X k := by obtain ⟨_, _, _, _, _, _, _, h⟩ := h; exact h.lx
  have hxl : ∀ k, X k → k < mb := by obtain ⟨_, _, _, _, _, _, _, h⟩ := h; exact fun k hk => hmb ▸ h.disk.hX k (h.xy k hk)
  have hR0 := h.right
  have hR : Hid (TickR X w m p room fail now mb (mb + 1) s c (.slice none 0 0) W) := Lib.hid ⟨[], vs, s, s.v.L.length,
    h.beside hB0 (fun k hk => by rcases hk with hk | hk | hk | hk; exact .inl hk; exact .inr (by omega); exact .inr (by omega); cases hk) (fun k hk => .inl (hlx k hk)),
    Go.Bl.Own.nil_ _ _ _ _ _, (fun o ho => by cases ho), cell_of_row W mb 0 _ _ _ hk0, cell_of_row W (mb + 1) 0 _ _ _ hk1, Kx.of_below hB0, hh, rfl, Nat.le_refl _, by have := hR0.n2; simp only [List.length_nil]; omega, hep, hroom⟩
  have HMB := Lib.hid hmb
  have HLX := Lib.hid hlx
  have HXL := Lib.hid hxl
  clear h hh hep hroom hB0 hk0 hk1 hlx hxl hR0
  obtain ⟨T, hT⟩ : ∃ T, s.tickF fail now s.v.L.length = T := ⟨_, rfl⟩
  rw [hT]
  have HT := Lib.hid hT
  clear hT
  go_enter Tryz.func18, Tryz.ntmps18
  go_upto_region 1 with (fail)
  rw [← hW]
  clear hW hmb hsz
  go_wp2_with fail
  go_loopw [5] (fun v wr => TickR X w m p room fail now mb (mb + 1) s c v wr) (fun _ wr => chainLen wr m)
  case atStart => exact hR.out
  case round =>
    obtain ⟨os, vs, s, f, hM, hO, hTT, k0, k1, hK, hh, hF, hf, hos, hep, hrm⟩ := hrel
    obtain ⟨Y, F, bh, br, va, vb, vc, h⟩ := hM
    obtain ⟨c0, c1, c2, c3, c4, c5, c6, c7⟩ := h.cells
    obtain ⟨A, ca, B, cb, C, cc, rfl, rfl, rfl, _⟩ := h.sl.shape
    have hI := indexS_any ⟨Y, F, bh, br, _, _, _, h⟩ (.slice A s.v.L.length ca) F h.sl.ch mb (mb + 1) now k0 k1 hh hnow
    have HI := Lib.hid hI
    have HM0 := Lib.hid k0
    have HM1 := Lib.hid k1
    have H := Lib.hid h
    have HO := Lib.hid hO
    have HTT := Lib.hid hTT
    have HK := Lib.hid hK
    have HH := Lib.hid hh
    have HF := Lib.hid hF
    have HN := Lib.hid (And.intro hf (And.intro hos (And.intro hep hrm)))
    clear hI h hO hTT hK hh hF hf hos hep hrm c5 c6 c7
    go_wp2_with fail
    refine HI.out.mono ?_
    rintro e wa ⟨r, rfl, hr, hBa⟩
    rcases hr with ⟨hno, rfl⟩ | ⟨i, x, rfl, hx, hfx⟩
    · have HNO := Lib.hid hno
      have HBa := Lib.hid hBa
      clear hno hBa
      go_wp2_with fail
      go_ret
      refine ⟨_, os, vs, rfl, ((HO.out.sl elOut.len).fresh HBa.out).mono (fun q _ e => by have := (HO.out.lt q e).1; have := HMB.out; show w.heap.size ≤ q; omega), HTT.out, ?_, HK.out.trans (Kx.of_below HBa.out)⟩
      rw [← HT.out, HF.out, tickF_none HNO.out]
      exact Mst.fresh (Mst.less ⟨Y, F, bh, br, _, _, _, H.out⟩ (fun k hk => .inl hk) HLX.out) HBa.out
    · have hi : i < s.v.L.length := by
        have := (List.getElem?_eq_some_iff.1 hx).1
        rwa [show s.v.nodes.length = s.v.L.length from List.length_map _] at this
      have hxm : x ∈ s.v.nodes := List.mem_of_getElem? hx
      have h1 := silent_two hxm (List.find?_some hfx)
      have hrt := H.out.right
      have hep1 := hrt.ep1
      have hep2 := HN.out.2.2.1
      have hn6 := hrt.n2
      have hxb := H.out.nodes hxm
      obtain ⟨b, o, rfl, _, _, hxx⟩ := (H.out.fresh hBa).sl.ch.cell_ (List.getElem?_eq_some_iff.1 hx).1
      have hxe := (List.getElem?_eq_some_iff.1 hx).2
      have x0 : wa.cell? ⟨b, o + i, none⟩ = some (.int .i64 x) := by
        have := hxx 0 _ rfl
        rw [Nat.mul_one, Nat.add_zero] at this
        exact this.trans (congrArg (fun z => some (Value.int .i64 z)) hxe)
      have k0 := (hBa.cell (p := ⟨mb, 0, none⟩) (World.block_lt_of_cell? _ _ k0)).trans k0
      have k1 := (hBa.cell (p := ⟨mb + 1, 0, none⟩) (World.block_lt_of_cell? _ _ k1)).trans k1
      have c0 := (hBa.cell (p := ⟨m, 0, none⟩) (World.block_lt_of_cell? _ _ c0)).trans c0
      have c1 := (hBa.cell (p := ⟨m, 1, none⟩) (World.block_lt_of_cell? _ _ c1)).trans c1
      have c2 := (hBa.cell (p := ⟨m, 2, none⟩) (World.block_lt_of_cell? _ _ c2)).trans c2
      have c3 := (hBa.cell (p := ⟨m, 3, none⟩) (World.block_lt_of_cell? _ _ c3)).trans c3
      have c4 := (hBa.cell (p := ⟨m, 4, none⟩) (World.block_lt_of_cell? _ _ c4)).trans c4
      have d0 : decide ((i : Int) < 0) = false := decide_eq_false (by omega)
      have hW := without_any wa F s.v.ep s.v.L _ _ _ (H.out.fresh hBa).sl hrt x hxm h1 (by omega)
      have HW := Lib.hid hW
      have HFX := Lib.hid hfx
      have HXM := Lib.hid hxm
      have HRV := Lib.hid (hrt.cutN hxm h1 (by omega))
      have HCL := Lib.hid (cut_len hrt hxm)
      have HBa := Lib.hid hBa
      have hi2 : (i : Int) < (s.v.L.length : Int) := by omega
      clear hW hfx hxm hrt hBa hxx hxe hx h1
      go_wp2_with fail
      refine HW.out.mono ?_
      rintro e wb ⟨a', b', c', rfl, hV, hBb⟩
      change VwSl wb _ (s.v.cutN x).L _ _ _ at hV
      obtain ⟨A', ca', B', cb', C', cc', rfl, rfl, rfl, _⟩ := hV.shape
      obtain ⟨N, hN⟩ : ∃ N, (s.v.cutN x).L.length = N := ⟨_, rfl⟩
      rw [hN] at hV ⊢
      have HNN := Lib.hid hN
      clear hN
      have HV := Lib.hid hV
      have HBb := Lib.hid hBb
      clear hV hBb x0
      go_upto_region 7 with (fail)
      have hBc : Below wr.heap.size wr (wb.alloc (.cells #[.int .i64 (s.v.ep + 1), .slice A' N ca', .slice B' N cb', .slice C' N cc'] 45)) := (HBa.out.trans (HBb.out.mono HBa.out.size)).alloc (Nat.le_trans HBa.out.size HBb.out.size) _
      have hKc := heap_alloc_new wb (.cells #[.int .i64 (s.v.ep + 1), .slice A' N ca', .slice B' N cb', .slice C' N cc'] 45)
      have HVc := Lib.hid (HV.out.fresh ((Below.refl wb.heap.size wb).alloc (Nat.le_refl _) (.cells #[.int .i64 (s.v.ep + 1), .slice A' N ca', .slice B' N cb', .slice C' N cc'] 45)))
      obtain ⟨g, hg⟩ : ∃ g, wb.heap.size = g := ⟨_, rfl⟩
      rw [hg] at hKc ⊢
      generalize wb.alloc (.cells #[.int .i64 (s.v.ep + 1), .slice A' N ca', .slice B' N cb', .slice C' N cc'] 45) = wc at hBc hKc HVc ⊢
      have HKc := Lib.hid hKc
      have HG := Lib.hid hg
      have HBc := Lib.hid hBc
      clear hBc hKc hg k0 k1 c0 c1 c2 c3 c4
      refine region_mid 8 rfl (by kernel_rfl) (by kernel_rfl) ?_
      simp only [List.take_succ_cons, List.take_zero, List.drop_succ_cons, List.drop_zero]
      change wpStill _ _ (World.drew _) _ _ _
      generalize hwd : World.drew _ = wd
      have hBd : Below wc.heap.size wc wd := hwd ▸ ⟨rfl, rfl, rfl, Nat.le_refl _, fun _ _ => rfl⟩
      have HBd := Lib.hid (HBc.out.trans (hBd.mono HBc.out.size))
      have HVd := Lib.hid (HVc.out.fresh hBd)
      have HKd := Lib.hid ((hBd.block g (Array.getElem?_eq_some_iff.1 HKc.out).1).trans HKc.out)
      have z0 : wd.cell? ⟨g, 0, none⟩ = some (.int .i64 (s.v.ep + 1)) := cell_of_row wd g 0 _ _ _ HKd.out
      have z1 : wd.cell? ⟨g, 1, none⟩ = some (.slice A' N ca') := cell_of_row wd g 1 _ _ _ HKd.out
      have z2 : wd.cell? ⟨g, 2, none⟩ = some (.slice B' N cb') := cell_of_row wd g 2 _ _ _ HKd.out
      have z3 : wd.cell? ⟨g, 3, none⟩ = some (.slice C' N cc') := cell_of_row wd g 3 _ _ _ HKd.out
      clear hBd
      have k0 := (HBd.out.cell (p := ⟨mb, 0, none⟩) (World.block_lt_of_cell? _ _ HM0.out)).trans HM0.out
      have hd := H.out.fresh HBd.out
      obtain ⟨c0, -, -, -, -, -, -, -⟩ := hd.cells
      have HQ := keepQ (H.out.raw.wide HBd.out) (s.v.cutN x) _ _ _ HVd.out HRV.out H.out.ups H.out.lenv (by have := HN.out.2.2.2; have := H.out.lenv; omega)
      have HQ := Lib.hid HQ
      clear hd
      refine still_of_quiet ?_
      repeat (go_big_quiet_step (fail))
      refine wpQuiet_nil ?_
      change wpList _ _ _ _ _ (World.drew _)
      rw [hwd]
      clear hwd
      go_wp2_with fail
      refine HQ.out.mono ?_
      rintro e we ⟨rfl, hQe, hKe⟩
      have HKe := Lib.hid hKe
      have HQe := Lib.hid hQe
      have hmb : mb < wr.heap.size := World.block_lt_of_cell? _ _ HM0.out
      have hnb : mb + 1 < wr.heap.size := World.block_lt_of_cell? _ _ HM1.out
      have hgl := (Array.getElem?_eq_some_iff.1 HKc.out).1
      have hgd := (Array.getElem?_eq_some_iff.1 HKd.out).1
      have hml := H.out.lt
      have hmd := (H.out.fresh HBd.out).lt
      have hkm := hKe.block m hmd (fun h => h (.inl H.out.ym.1))
      have hkg := hKe.block g hgd (fun h => h (.inr ⟨by have := HG.out; have := HBa.out.size; have := HBb.out.size; omega, hgd⟩))
      have HM2 := Lib.hid (hkm.trans (H.out.fresh HBd.out).blk)
      have HMe := Lib.hid ((hKe.cell (a := ⟨mb, 0, none⟩) (Nat.lt_of_lt_of_le hmb HBd.out.size) (fun h => h (.inl (H.out.xy mb (.inr (.inl rfl)))))).trans k0)
      have HNe := Lib.hid ((hKe.cell (a := ⟨mb + 1, 0, none⟩) (Nat.lt_of_lt_of_le hnb HBd.out.size) (fun h => h (.inl (H.out.xy (mb + 1) (.inr (.inr (.inl rfl))))))).trans ((HBd.out.cell (p := ⟨mb + 1, 0, none⟩) hnb).trans HM1.out))
      have HGe := Lib.hid (hkg.trans HKd.out)
      clear hQe hKe k0 c0 z0 z1 z2 z3 hkm hkg hgl hgd hml hmd
      have k0 := HMe.out
      have z0 : we.cell? ⟨g, 0, none⟩ = some (.int .i64 (s.v.ep + 1)) := cell_of_row we g 0 _ _ _ HGe.out
      have z1 : we.cell? ⟨g, 1, none⟩ = some (.slice A' N ca') := cell_of_row we g 1 _ _ _ HGe.out
      have z2 : we.cell? ⟨g, 2, none⟩ = some (.slice B' N cb') := cell_of_row we g 2 _ _ _ HGe.out
      have z3 : we.cell? ⟨g, 3, none⟩ = some (.slice C' N cc') := cell_of_row we g 3 _ _ _ HGe.out
      have c1 : we.cell? ⟨m, 1, none⟩ = some (.int .i64 s.v.ep) := cell_of_row we m 1 _ _ _ HM2.out
      have c2 : we.cell? ⟨m, 2, none⟩ = some (.slice (some ⟨b, o, none⟩) s.v.L.length ca) := cell_of_row we m 2 _ _ _ HM2.out
      have c3 : we.cell? ⟨m, 3, none⟩ = some (.slice B s.v.L.length cb) := cell_of_row we m 3 _ _ _ HM2.out
      have c4 : we.cell? ⟨m, 4, none⟩ = some (.slice C s.v.L.length cc) := cell_of_row we m 4 _ _ _ HM2.out
      have f1 := frozen_block HM2.out 1
      have f2 := frozen_block HM2.out 2
      have f3 := frozen_block HM2.out 3
      have f4 := frozen_block HM2.out 4
      go_wp2_with fail
      unfold Go.Bl.Rest
      refine still_of_quiet ?_
      repeat (go_big_quiet_step (fail))
      refine wpQuiet_nil ?_
      go_upto_region 9 with (fail)
      have hst := view_keeps we m (.int .i64 (s.v.ep + 1)) (.slice A' N ca') (.slice B' N cb') (.slice C' N cc')
      have hbk := view_block HM2.out (.int .i64 (s.v.ep + 1)) (.slice A' N ca') (.slice B' N cb') (.slice C' N cc')
      generalize ((((we.setCell ⟨m, 1, none⟩ (.int .i64 (s.v.ep + 1))).setCell ⟨m, 2, none⟩ (.slice A' N ca')).setCell ⟨m, 3, none⟩ (.slice B' N cb')).setCell ⟨m, 4, none⟩ (.slice C' N cc')) = wf at hst hbk ⊢
      have hR := H.out.raw.turn HBd.out (HVd.out.mono fun k _ h1 => Nat.le_trans HBa.out.size h1) HRV.out (show s.v.ep < s.v.ep + 1 by omega) HQe.out HKe.out hst hbk
      have hmm : mb ≠ m := fun e => H.out.xm.1 (.inr (.inl e.symm))
      have hmn : mb + 1 ≠ m := fun e => H.out.xm.1 (.inr (.inr (.inl e.symm)))
      have HKf := Lib.hid (((Kx.of_below HBd.out).trans (HKe.out.mono fun k _ h1 h2 => h1 (.inl (H.out.xy k h2)))).trans (hst.mono fun k _ e h2 => H.out.xm.1 (by have e2 : k = m := e; exact e2 ▸ h2)))
      have HRf := Lib.hid hR
      have hsf : wd.heap.size ≤ wf.heap.size := Nat.le_trans HKe.out.size hst.size
      have k0 := (hst.cell (a := ⟨mb, 0, none⟩) (World.block_lt_of_cell? _ _ HMe.out) hmm).trans HMe.out
      have k1 := (hst.cell (a := ⟨mb + 1, 0, none⟩) (World.block_lt_of_cell? _ _ HNe.out) hmn).trans HNe.out
      have HM0 := Lib.hid k0
      have HN1 := Lib.hid k1
      obtain ⟨-, -, -, -, -, -, c6, -⟩ := HRf.out.cells
      clear hst hbk hR hmm hmn z0 z1 z2 z3 c1 c2 c3 c4 f1 f2 f3 f4 k1
      obtain ⟨wg, hrg, hg, hkg, hsg⟩ := HRf.out.del_heard (x := x) (by unfold i64; omega) 0
      have HRg := Lib.hid hg
      clear hg
      go_upto_region 10 with (fail)
      have hmh : mb ≠ bh := fun e => H.out.xm.2.1 (.inr (.inl e.symm))
      have hnh : mb + 1 ≠ bh := fun e => H.out.xm.2.1 (.inr (.inr (.inl e.symm)))
      have hmr : mb ≠ br := fun e => H.out.xm.2.2 (.inr (.inl e.symm))
      have hnr : mb + 1 ≠ br := fun e => H.out.xm.2.2 (.inr (.inr (.inl e.symm)))
      have hsg2 : wd.heap.size ≤ wg.heap.size := Nat.le_trans hsf hkg.size
      have HKg := Lib.hid (HKf.out.trans (hkg.mono fun k _ e h2 => H.out.xm.2.1 (by have e2 : k = bh := e; exact e2 ▸ h2)))
      have k0 := (hkg.cell (a := ⟨mb, 0, none⟩) (World.block_lt_of_cell? _ _ HM0.out) hmh).trans HM0.out
      have k1 := (hkg.cell (a := ⟨mb + 1, 0, none⟩) (World.block_lt_of_cell? _ _ HN1.out) hnh).trans HN1.out
      have HM0 := Lib.hid k0
      have HN1 := Lib.hid k1
      obtain ⟨-, -, -, -, -, -, -, c7⟩ := HRg.out.cells
      clear hrg hkg hsg c6 k1
      obtain ⟨wh, hrh, hh, hkh, hsh⟩ := HRg.out.del_ready (x := x) (by unfold i64; omega) 0
      have HRh := Lib.hid hh
      clear hh
      go_upto_region 11 with (fail)
      have hsh2 : wd.heap.size ≤ wh.heap.size := Nat.le_trans hsg2 hkh.size
      have HKh := Lib.hid (HKg.out.trans (hkh.mono fun k _ e h2 => H.out.xm.2.2 (by have e2 : k = br := e; exact e2 ▸ h2)))
      have k0 := (hkh.cell (a := ⟨mb, 0, none⟩) (World.block_lt_of_cell? _ _ HM0.out) hmr).trans HM0.out
      have k1 := (hkh.cell (a := ⟨mb + 1, 0, none⟩) (World.block_lt_of_cell? _ _ HN1.out) hnr).trans HN1.out
      have HN1 := Lib.hid k1
      clear hrh hkh hsh c7 k1 hmh hnh hmr hnr
      have HOh := Lib.hid (HO.out.keep HKh.out fun b e h => h (.inr (.inr (.inr e))))
      have HRG : Hid (∀ y, 0 ≤ (s.out x).rd y) := Lib.hid (fun y => by
        show 0 ≤ if y = x then (0 : Int) else s.rd y
        have := H.out.rdge y
        split <;> omega)
      have HMI := Lib.hid (HRh.out.mst (s := s.out x) (fun y => hdF_out y) (fun y => rdF_out y) HRG.out)
      have HA0 := Lib.hid (show Below wh.heap.size wh wh.drew from ⟨rfl, rfl, rfl, Nat.le_refl _, fun _ _ => rfl⟩)
      have HOL := Lib.hid (fun q (e : u5.ownBlock = some q) => HO.out.lt q e)
      have HMh := Lib.hid (show Mst (fun k => X k ∨ k = mb ∨ k = mb + 1 ∨ u5.ownBlock = some k) wh m p room fail (keepV vs (s.v.cutN x)) (s.out x) c from ⟨_, _, _, _, _, _, _, HMI.out⟩)
      have HSZ := Lib.hid (show wr.heap.size ≤ wd.heap.size ∧ wd.heap.size ≤ wh.heap.size from ⟨HBd.out.size, hsh2⟩)
      have HN6 := Lib.hid (show N ≤ 5 by have := HNN.out; have := HCL.out; omega)
      have HNB := Lib.hid (show mb + 1 < wr.heap.size from hnb)
      have HOSL := Lib.hid (show os.length ≤ 42 by have := HN.out.2.1; omega)
      go_region_held3 (fun y => y.cell? ⟨mb, 0, none⟩ = some (.pointer (some ⟨m, 0, none⟩)))
        (first | with_reducible exact y3 | with_reducible exact y2 | with_reducible exact y1 | with_reducible exact y0 | with_reducible exact k0 | go_keep)
        (first
          | (go_at_call 44
             with_reducible refine (all_any (HMh.out.fresh HA0.out)).mono ?_
             rintro e wi ⟨v1, os1, rfl, hS1, hV1, hB1⟩
             have HAi := Lib.hid (show Below wh.heap.size wh wi from HA0.out.trans hB1)
             have HS1 := Lib.hid hS1
             have HV1 := Lib.hid hV1
             have HL1 : Hid (os1.length = N) := Lib.hid (by
               have := congrArg List.length hV1.1
               rw [List.length_map] at this
               rw [this]
               show (List.map Nd.node (s.v.cutN x).L).length = N
               rw [List.length_map]
               exact HNN.out)
             have y0 := (HAi.out.cell (p := ⟨mb, 0, none⟩) (World.block_lt_of_cell? _ _ k0)).trans k0
             clear hS1 hV1 hB1)
          | (refine elOut.step _ (by rfl) (.tmp 63) (.tmp 65) (by rfl) (mb + 1 + 1) u5 os (by rfl) (HOh.out.fresh HAi.out) _ v1 os1 (by rfl) HS1.out ?_ ?_ ?_
             · have := HL1.out; have := HN6.out; have := HOSL.out; omega
             · have := HAi.out.size; have := HSZ.out; have := HNB.out; omega
             intro v2 wj hown2 hg2 hat2
             have HO2 := Lib.hid hown2
             have HG2 := Lib.hid (Keeps.of_grown hg2)
             have HAT2 := Lib.hid hat2
             have y1 := (HG2.out.cell (a := ⟨mb, 0, none⟩) (World.block_lt_of_cell? _ _ y0) (fun e => by have := (HOL.out mb e).1; omega)).trans y0
             have HRj : Hid (MstR (fun k => X k ∨ k = mb ∨ k = mb + 1 ∨ v2.ownBlock = some k) wj m p room fail (keepV vs (s.v.cutN x)) (s.v.cutN x) c (fun k => ((Y k ∨ (wr.heap.size ≤ k ∧ k < wd.heap.size)) ∨ (wh.heap.size ≤ k ∧ k < wi.heap.size)) ∨ (wi.heap.size ≤ k ∧ k < wj.heap.size)) (fun k => wr.heap.size ≤ k ∧ k < wd.heap.size) bh br (.slice A' N ca') (.slice B' N cb') (.slice C' N cc') (fun y => if y = x then none else hdF s y) (fun y => if y = x then none else rdF s y)) := Lib.hid (((HRh.out.beside HAi.out (fun k hk => .inl hk) HRh.out.lx).grow HG2.out (fun k hk => by
               have hx1 : X k ∨ k = mb ∨ k = mb + 1 ∨ u5.ownBlock = some k := .inr (.inr (.inr hk))
               have h1 := HOL.out k hk
               exact ⟨.inl (HRh.out.xy k hx1), by omega, fun e => HRh.out.xm.1 (e ▸ hx1), fun e => HRh.out.xm.2.1 (e ▸ hx1), fun e => HRh.out.xm.2.2 (e ▸ hx1), fun h2 => by omega⟩) (fun k hk => by
               rcases hk with hk | hk | hk | hk
               · exact .inl (.inl hk)
               · exact .inl (.inr (.inl hk))
               · exact .inl (.inr (.inr (.inl hk)))
               · have h3 := (HO2.out.lt k hk).2
                 rcases HAT2.out with h2 | h2
                 · exact .inl (.inr (.inr (.inr (h2 ▸ hk))))
                 · rw [h2] at hk
                   cases hk
                   exact .inr ⟨Nat.le_refl _, h3⟩) (fun k hk => .inl (HLX.out k hk))))
             have HMj := Lib.hid (show Mst (fun k => X k ∨ k = mb ∨ k = mb + 1 ∨ v2.ownBlock = some k) wj m p room fail (keepV vs (s.v.cutN x)) (s.out x) c from ⟨_, _, _, _, _, _, _, HRj.out.mst (s := s.out x) (fun y => hdF_out y) (fun y => rdF_out y) HRG.out⟩)
             clear hown2 hg2 hat2)
          | (go_at_call 35
             with_reducible refine (tell_any (HMj.out) x).mono ?_
             rintro e wk ⟨v3, o3, rfl, hS3, ho3, hV3, hB3⟩
             have HS3 := Lib.hid hS3
             have HV3 := Lib.hid hV3
             have HB3 := Lib.hid hB3
             have y2 := (HB3.out.cell (p := ⟨mb, 0, none⟩) (World.block_lt_of_cell? _ _ y1)).trans y1
             clear hS3 ho3 hV3 hB3)
          | (refine elOut.step _ (by rfl) (.tmp 66) (.tmp 69) (by rfl) (mb + 1 + 1) v2 (os ++ os1) (by rfl) (HO2.out.fresh HB3.out) _ v3 [o3] (by rfl) HS3.out ?_ ?_ ?_
             · rw [List.length_append, List.length_singleton]; have := HL1.out; have := HN6.out; have := HOSL.out; omega
             · have := HAi.out.size; have := HSZ.out; have := HNB.out; have := HG2.out.size; have := HB3.out.size; omega
             intro v4 wl hown4 hg4 hat4
             have HO4 := Lib.hid hown4
             have HG4 := Lib.hid (Keeps.of_grown hg4)
             have HAT4 := Lib.hid hat4
             have y3 := (HG4.out.cell (a := ⟨mb, 0, none⟩) (World.block_lt_of_cell? _ _ y2) (fun e => by have := (HO2.out.lt mb e).1; omega)).trans y2
             clear hown4 hg4 hat4))
      have HRl : Hid (MstR (fun k => X k ∨ k = mb ∨ k = mb + 1 ∨ v4.ownBlock = some k) wl m p room fail (keepV vs (s.v.cutN x)) (s.v.cutN x) c _ _ bh br _ _ _ _ _) := Lib.hid (((HRj.out.beside HB3.out (fun k hk => .inl hk) HRj.out.lx).grow HG4.out (fun k hk => by
        have hx1 : X k ∨ k = mb ∨ k = mb + 1 ∨ v2.ownBlock = some k := .inr (.inr (.inr hk))
        have h1 := HO2.out.lt k hk
        refine ⟨.inl (HRj.out.xy k hx1), by omega, fun e => HRj.out.xm.1 (e ▸ hx1), fun e => HRj.out.xm.2.1 (e ▸ hx1), fun e => HRj.out.xm.2.2 (e ▸ hx1), fun h2 => ?_⟩
        rcases HAT2.out with h3 | h3
        · have := HOL.out k (h3 ▸ hk); omega
        · rw [h3] at hk
          cases hk
          have := HSZ.out; have := HAi.out.size; omega) (fun k hk => by
        rcases hk with hk | hk | hk | hk
        · exact .inl (.inl hk)
        · exact .inl (.inr (.inl hk))
        · exact .inl (.inr (.inr (.inl hk)))
        · have h3 := (HO4.out.lt k hk).2
          rcases HAT4.out with h2 | h2
          · exact .inl (.inr (.inr (.inr (h2 ▸ hk))))
          · rw [h2] at hk
            cases hk
            exact .inr ⟨Nat.le_refl _, h3⟩) (fun k hk => .inl (HLX.out k hk))))
      have y3 := y3
      have HY3 := Lib.hid y3
      have HN4 := Lib.hid (show wl.cell? ⟨mb + 1, 0, none⟩ = some (.int .i64 now) by
        have n0 := HN1.out
        have n1 := (HAi.out.cell (p := ⟨mb + 1, 0, none⟩) (World.block_lt_of_cell? _ _ n0)).trans n0
        have n2 := (HG2.out.cell (a := ⟨mb + 1, 0, none⟩) (World.block_lt_of_cell? _ _ n1) (fun e => by have := (HOL.out (mb + 1) e).1; omega)).trans n1
        have n3 := (HB3.out.cell (p := ⟨mb + 1, 0, none⟩) (World.block_lt_of_cell? _ _ n2)).trans n2
        exact (HG4.out.cell (a := ⟨mb + 1, 0, none⟩) (World.block_lt_of_cell? _ _ n3) (fun e => by have := (HO2.out.lt (mb + 1) e).1; omega)).trans n3)
      have HK4 : Hid (Kx X w wl) := Lib.hid (by
        have hxl := HXL.out
        have a1 : Kx X w wh := HK.out.trans (HKh.out.mono fun k _ h1 h2 => h1 (.inl h2))
        have a2 := a1.trans (Kx.of_below HAi.out)
        have a3 := a2.trans (HG2.out.mono fun k _ h1 h2 => by have := (HOL.out k h1).1; have := hxl k h2; omega)
        have a4 := a3.trans (Kx.of_below HB3.out)
        exact a4.trans (HG4.out.mono fun k _ h1 h2 => by have := (HO2.out.lt k h1).1; have := hxl k h2; omega))
      clear y3
      go_wp2_with fail
      go_roundw
      case rel =>
        obtain ⟨f', rfl⟩ : ∃ f', f = f' + 1 := ⟨f - 1, by have := HN.out.1; omega⟩
        have hcl := HCL.out
        have hnn := HNN.out
        obtain ⟨n1, n2, n3, n4⟩ := HN.out
        have hkl := keepV_len1 vs (s.v.cutN x)
        refine ⟨_, keepV vs (s.v.cutN x), s.out x, f', ⟨_, _, _, _, _, _, _, HRl.out.mst (s := s.out x) (fun y => hdF_out y) (fun y => rdF_out y) HRG.out⟩, HO4.out, fun o ho => ?_, HY3.out, HN4.out, HK4.out, HH.out.out, HF.out.trans (tickF_some HFX.out (by omega) f'), ?_, ?_, ?_, ?_⟩
        · rcases List.mem_append.1 ho with ho | ho
          · rcases List.mem_append.1 ho with ho | ho
            · exact HTT.out o ho
            · exact (HV1.out.2 o ho).1
          · obtain rfl := List.mem_singleton.1 ho
            exact HV3.out.1
        · show (s.v.cutN x).L.length ≤ f'
          omega
        · rw [List.length_append, List.length_append, List.length_singleton, HL1.out]
          show os.length + N + 1 + 7 * (s.v.cutN x).L.length ≤ 42
          omega
        · show s.v.ep + 1 + ((s.v.cutN x).L.length : Int) < 274877906944
          omega
        · show 2816 ≤ room ∨ 128 * (((keepV vs (s.v.cutN x)).length : Int) + ((s.v.cutN x).L.length : Int)) ≤ room
          omega
      case measure =>
        have hcl := HCL.out
        have hnn := HNN.out
        obtain ⟨-, -, e1, -⟩ := HRl.out.cells
        obtain ⟨-, -, e2, -⟩ := H.out.cells
        unfold chainLen
        rw [e1, e2]
        show N < s.v.L.length
        omega
end Go.Proofs.YtoegdpcfhmjnaaaGreatDoor

namespace Go.Proofs.YtoegdpcfhmjnaaaGreatDoor
open Go.RowKit Go.Bl
attribute [local go_sem ↓] Go.wp_at_zero Go.wp_at_succ

def dumR : RowD := ⟨true, false, false, undef, undef, .slice none 0 0, [], 0⟩
/-- Amid the round: what is made already. -/
structure J2 (w2 : World) (q : Nat) (a0 : Value) (r1 r2 : Value) (L1 L2 : List Int) (n1 n2 : Int) (β : Nat → Bool) (X : Nat → Value) (u : World) : Prop where
  rows : Rows3 u w2.heap.size ⟨true, β 2, β 3, X 53, X 54, r1, L1, n1⟩ ⟨true, β 6, β 7, X 57, X 58, r2, L2, n2⟩ dumR
  k : Keeps (fun k => k = q) w2 u
  c : u.heap[q]? = some (.cells #[.int .i64 1, a0, if β 9 = true then X 54 else r1, if β 11 = true then X 58 else r2] 45 (0, 0))
  i9 : β 9 = true → β 2 = true ∧ β 3 = true ∧ β 6 = true ∧ β 7 = true ∧ β 8 = true
  i11 : β 11 = true → β 9 = true
  p8 : β 8 = true → X 59 = .pointer (some ⟨q, 2, none⟩)
  p10 : β 10 = true → X 60 = .pointer (some ⟨q, 3, none⟩)
  w3 : β 3 = true → β 2 = true
  w7 : β 7 = true → β 6 = true ∧ β 3 = true
section
variable {w2 : World} {q : Nat} {a0 : Value} {r1 r2 : Value} {L1 L2 : List Int} {n1 n2 : Int} {β : Nat → Bool} {X : Nat → Value} {u u' : World}
theorem J2.early (h : J2 w2 q a0 r1 r2 L1 L2 n1 n2 β X u) (h9 : β 9 = false) : β 11 = false ∧ u.heap[q]? = some (.cells #[.int .i64 1, a0, r1, r2] 45 (0, 0)) := by
  have h11 : β 11 = false := by cases e : β 11 with | false => rfl | true => rw [h.i11 e] at h9; cases h9
  have := h.c
  rw [h9, h11] at this
  exact ⟨h11, this⟩
theorem J2.build1 (h : J2 w2 q a0 r1 r2 L1 L2 n1 n2 β X u) (ha : β 3 = false) (h9 : β 9 = false) : J2 w2 q a0 r1 r2 L1 L2 n1 n2 (fun k => decide (k = 2) || β k) (newX (some 53) (.slice (some ⟨u.heap.size, 0, none⟩) 1 1) X) (u.alloc (.cells #[.int .i64 n1] 3)) :=
  ⟨(h.rows.build1 ha h.k.size), h.k.alloc _, (Below.heap_alloc _ _ _ (Array.getElem?_eq_some_iff.1 h.c).1).trans h.c, (fun e => by rw [show (decide (9 = 2) || β 9) = β 9 from rfl, h9] at e; cases e), h.i11, h.p8, h.p10, fun _ => rfl, h.w7⟩
theorem J2.got1 {v : Value} (h : J2 w2 q a0 r1 r2 L1 L2 n1 n2 β X u) (ha : β 3 = false) (hf : β 2 = true) (h9 : β 9 = false) (hq : q < w2.heap.size) (ho : Go.Bl.Own u' w2.heap.size 3 1 intc v (L1 ++ [n1])) (hg : u.grownBy u' r1.ownBlock) (hat : AtOf u r1 v) :
    J2 w2 q a0 r1 r2 L1 L2 n1 n2 (fun k => decide (k = 3) || β k) (newX (some 54) v X) u' := by
  have hb : ∀ k, r1.ownBlock = some k → w2.heap.size ≤ k := fun k e => (Own.lt (h.rows.r1.own0 rfl ha) k e).1
  refine ⟨(h.rows.got1 ha rfl ho hg hat), h.k.grown hg (fun k e hk => by have := hb k e; omega), ?_, (fun e => by rw [show (decide (9 = 3) || β 9) = β 9 from rfl, h9] at e; cases e), h.i11, h.p8, h.p10, fun _ => hf, (fun e => ⟨(h.w7 e).1, rfl⟩)⟩
  obtain ⟨h11, hc⟩ := h.early h9
  have := (Keeps.of_grown hg).grownTo hc (fun e => by have := hb q e; omega)
  rw [show (decide (9 = 3) || β 9) = false from h9, show (decide (11 = 3) || β 11) = false from h11]
  exact this
theorem J2.build2 (h : J2 w2 q a0 r1 r2 L1 L2 n1 n2 β X u) (ha : β 7 = false) (h9 : β 9 = false) : J2 w2 q a0 r1 r2 L1 L2 n1 n2 (fun k => decide (k = 6) || β k) (newX (some 57) (.slice (some ⟨u.heap.size, 0, none⟩) 1 1) X) (u.alloc (.cells #[.int .i64 n2] 3)) :=
  ⟨(h.rows.rot.build1 ha h.k.size).rot.rot, h.k.alloc _, (Below.heap_alloc _ _ _ (Array.getElem?_eq_some_iff.1 h.c).1).trans h.c, (fun e => by rw [show (decide (9 = 6) || β 9) = β 9 from rfl, h9] at e; cases e), h.i11, h.p8, h.p10, h.w3, (fun e => ⟨rfl, (h.w7 e).2⟩)⟩
theorem J2.got2 {v : Value} (h : J2 w2 q a0 r1 r2 L1 L2 n1 n2 β X u) (ha : β 7 = false) (hf : β 6 = true) (hp : β 3 = true) (h9 : β 9 = false) (hq : q < w2.heap.size) (ho : Go.Bl.Own u' w2.heap.size 3 1 intc v (L2 ++ [n2])) (hg : u.grownBy u' r2.ownBlock) (hat : AtOf u r2 v) :
    J2 w2 q a0 r1 r2 L1 L2 n1 n2 (fun k => decide (k = 7) || β k) (newX (some 58) v X) u' := by
  have hb : ∀ k, r2.ownBlock = some k → w2.heap.size ≤ k := fun k e => (Own.lt (h.rows.r2.own0 rfl ha) k e).1
  refine ⟨(h.rows.rot.got1 ha rfl ho hg hat).rot.rot, h.k.grown hg (fun k e hk => by have := hb k e; omega), ?_, (fun e => by rw [show (decide (9 = 7) || β 9) = β 9 from rfl, h9] at e; cases e), h.i11, h.p8, h.p10, h.w3, fun _ => ⟨hf, hp⟩⟩
  obtain ⟨h11, hc⟩ := h.early h9
  have := (Keeps.of_grown hg).grownTo hc (fun e => by have := hb q e; omega)
  rw [show (decide (9 = 7) || β 9) = false from h9, show (decide (11 = 7) || β 11) = false from h11]
  exact this
theorem J2.ptr1 (h : J2 w2 q a0 r1 r2 L1 L2 n1 n2 β X u) (h9 : β 9 = false) : J2 w2 q a0 r1 r2 L1 L2 n1 n2 (fun k => decide (k = 8) || β k) (newX (some 59) (.pointer (some ⟨q, 2, none⟩)) X) u :=
  ⟨h.rows, h.k, h.c, (fun e => by rw [show (decide (9 = 8) || β 9) = β 9 from rfl, h9] at e; cases e), h.i11, fun _ => rfl, h.p10, h.w3, h.w7⟩
theorem J2.ptr2 (h : J2 w2 q a0 r1 r2 L1 L2 n1 n2 β X u) : J2 w2 q a0 r1 r2 L1 L2 n1 n2 (fun k => decide (k = 10) || β k) (newX (some 60) (.pointer (some ⟨q, 3, none⟩)) X) u :=
  ⟨h.rows, h.k, h.c, h.i9, h.i11, h.p8, fun _ => rfl, h.w3, h.w7⟩
theorem J2.put1 (h : J2 w2 q a0 r1 r2 L1 L2 n1 n2 β X u) (h9 : β 9 = false) (hq : q < w2.heap.size) (ha : β 2 = true ∧ β 3 = true ∧ β 6 = true ∧ β 7 = true ∧ β 8 = true) : J2 w2 q a0 r1 r2 L1 L2 n1 n2 (fun k => decide (k = 9) || β k) X (u.setCell ⟨q, 2, none⟩ (X 54)) := by
  obtain ⟨h11, hc⟩ := h.early h9
  refine ⟨h.rows.keep (Keeps.one u q 2 (X 54)) (fun k e => by rw [show k = q from e]; exact hq), h.k.trans (Keeps.one u q 2 (X 54)), ?_, fun _ => ha, (fun e => by rw [show (decide (11 = 9) || β 11) = β 11 from rfl, h11] at e; cases e), h.p8, h.p10, h.w3, h.w7⟩
  rw [show (decide (11 = 9) || β 11) = false from h11]
  exact setCell_block (o := 2) hc (X 54)
theorem J2.put2 (h : J2 w2 q a0 r1 r2 L1 L2 n1 n2 β X u) (h11 : β 11 = false) (hq : q < w2.heap.size) (h9 : β 9 = true) : J2 w2 q a0 r1 r2 L1 L2 n1 n2 (fun k => decide (k = 11) || β k) X (u.setCell ⟨q, 3, none⟩ (X 58)) := by
  have hc := h.c
  rw [h9, h11] at hc
  refine ⟨h.rows.keep (Keeps.one u q 3 (X 58)) (fun k e => by rw [show k = q from e]; exact hq), h.k.trans (Keeps.one u q 3 (X 58)), ?_, h.i9, fun _ => h9, h.p8, h.p10, h.w3, h.w7⟩
  rw [show (decide (9 = 11) || β 9) = true from h9]
  exact setCell_block (o := 3) hc (X 58)
end
end Go.Proofs.YtoegdpcfhmjnaaaGreatDoor
