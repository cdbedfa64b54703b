/- The disk that keeps views, in plain words. No condition beyond the stated ones. -/
import Derived.Test.YtoegdpcfhmjnaaaGreatDoorVwN
import Derived.Test.YtoegdpcfhmjnaaaGreatDoorDskH
import Derived.Test.YtoegdpcfhmjnaaaGreatDoorVwP
/- The master's state as plain words: who is heard, who is ready, who is taken out. Plain; no condition. -/
namespace Go.Proofs.YtoegdpcfhmjnaaaGreatDoor
open Go.RowKit Go.Bl

/-- The view; when each node was heard; the epoch that each one said last, of those that said the view's (0: none). -/
structure Ms where
  v : Vw
  hd : Int → Int
  rd : Int → Int
def Ms.others (m : Ms) (k : Int) : Bool := m.v.nodes.any fun j => decide (j ≠ k) && decide (0 < m.rd j)
def Ms.silent (m : Ms) (fail now k : Int) : Bool := decide (fail < now - m.hd k) && m.others k
def Ms.hear (m : Ms) (k now : Int) : Ms := { m with hd := fun x => if x = k then now else m.hd x }
def Ms.makeReady (m : Ms) (k e : Int) : Ms := { m with rd := fun x => if x = k then e else m.rd x }
def Ms.out (m : Ms) (k : Int) : Ms := ⟨m.v.cutN k, m.hd, fun x => if x = k then 0 else m.rd x⟩
def Ms.come (m : Ms) (k boot now : Int) : Ms := ⟨m.v.withN k boot, fun x => if x = k then now else m.hd x, m.rd⟩
/-- What a Tick makes of it, in so many steps at most. -/
def Ms.tickF (fail now : Int) : Nat → Ms → Ms
  | 0, m => m
  | f + 1, m => match m.v.nodes.find? (m.silent fail now) with
    | none => m
    | some k => if m.v.ep = 274877906944 then m else (m.out k).tickF fail now f
theorem find_node {m : Ms} {fail now k : Int} (h : m.v.nodes.find? (m.silent fail now) = some k) : k ∈ m.v.nodes ∧ m.silent fail now k = true := ⟨List.mem_of_find?_eq_some h, List.find?_some h⟩
theorem silent_two {m : Ms} {fail now k : Int} (hk : k ∈ m.v.nodes) (h : m.silent fail now k = true) : m.v.L.length ≠ 1 := by
  unfold Ms.silent Ms.others at h
  rw [Bool.and_eq_true] at h
  obtain ⟨j, hj, h2⟩ := List.any_eq_true.1 h.2
  rw [Bool.and_eq_true, decide_eq_true_eq] at h2
  intro e
  unfold Vw.nodes at hk hj
  obtain ⟨x, hx⟩ := List.length_eq_one_iff.1 e
  rw [hx] at hk hj
  simp only [List.map_cons, List.map_nil, List.mem_singleton] at hk hj
  exact h2.1 (hj.trans hk.symm)
theorem cutN_nodes (v : Vw) (k x : Int) : x ∈ (v.cutN k).nodes ↔ x ∈ v.nodes ∧ x ≠ k := by
  unfold Vw.cutN Vw.nodes
  simp only [List.mem_map, List.mem_filter, decide_eq_true_eq]
  constructor
  · rintro ⟨y, ⟨h1, h2⟩, rfl⟩
    exact ⟨⟨y, h1, rfl⟩, h2⟩
  · rintro ⟨⟨y, h1, rfl⟩, h2⟩
    exact ⟨y, ⟨h1, h2⟩, rfl⟩
theorem withN_nodes (v : Vw) (k b x : Int) : x ∈ (v.withN k b).nodes ↔ x ∈ v.nodes ∨ x = k := by
  unfold Vw.withN Vw.nodes
  simp [eq_comm]
/-- Each lease is over, or its node is in the view, and was heard when it was given, or behind. -/
def Leases (m : Ms) (fail now : Int) (l : List (Int × Int)) : Prop := ∀ p ∈ l, p.2 ≤ now ∨ (p.1 ∈ m.v.nodes ∧ p.2 ≤ m.hd p.1 + fail / 2)
/-- No node was heard ahead of the time's beginning, or will have been. -/
def Heard (m : Ms) (now : Int) : Prop := ∀ k ∈ m.v.nodes, 0 ≤ m.hd k ∧ m.hd k ≤ now
theorem Heard.mono {m : Ms} {now now' : Int} (h : Heard m now) (hn : now ≤ now') : Heard m now' := fun k hk => ⟨(h k hk).1, Int.le_trans (h k hk).2 hn⟩
theorem Heard.out {m : Ms} {now k : Int} (h : Heard m now) : Heard (m.out k) now := fun x hx => h x ((cutN_nodes _ _ _).1 hx).1
theorem Leases.mono {m : Ms} {fail now now' : Int} {l : List (Int × Int)} (h : Leases m fail now l) (hn : now ≤ now') : Leases m fail now' l := fun p hp => (h p hp).imp (fun h => Int.le_trans h hn) id
theorem Leases.out {m : Ms} {fail now k : Int} {l : List (Int × Int)} (h : Leases m fail now l) (hf : 0 ≤ fail) (hk : m.silent fail now k = true) : Leases (m.out k) fail now l := fun p hp => by
  rcases h p hp with h | ⟨h1, h2⟩
  · exact .inl h
  · by_cases e : p.1 = k
    · have : fail < now - m.hd k := by
        unfold Ms.silent at hk
        rw [Bool.and_eq_true, decide_eq_true_eq] at hk
        exact hk.1
      rw [e] at h2
      exact .inl (by omega)
    · exact .inr ⟨(cutN_nodes _ _ _).2 ⟨h1, e⟩, h2⟩
theorem Leases.hear {m : Ms} {fail now k : Int} {l : List (Int × Int)} (h : Leases m fail now l) (hh : Heard m now) : Leases (m.hear k now) fail now l := fun p hp => (h p hp).imp id fun ⟨h1, h2⟩ => ⟨h1, by
  show p.2 ≤ (if p.1 = k then now else m.hd p.1) + fail / 2
  split
  · have := (hh p.1 h1).2; omega
  · exact h2⟩
theorem Heard.hear {m : Ms} {now k : Int} (h : Heard m now) (h0 : 0 ≤ now) : Heard (m.hear k now) now := fun x hx => by
  show 0 ≤ (if x = k then now else m.hd x) ∧ (if x = k then now else m.hd x) ≤ now
  split
  · exact ⟨h0, Int.le_refl _⟩
  · exact h x hx
theorem Heard.come {m : Ms} {now k boot : Int} (h : Heard m now) (h0 : 0 ≤ now) : Heard (m.come k boot now) now := fun x hx => by
  show 0 ≤ (if x = k then now else m.hd x) ∧ (if x = k then now else m.hd x) ≤ now
  split
  · exact ⟨h0, Int.le_refl _⟩
  · rename_i e
    exact h x (((withN_nodes _ _ _ _).1 hx).resolve_right e)
theorem Leases.come {m : Ms} {fail now k boot : Int} {l : List (Int × Int)} (h : Leases m fail now l) (hn : k ∉ m.v.nodes) : Leases (m.come k boot now) fail now l := fun p hp => (h p hp).imp id fun ⟨h1, h2⟩ => ⟨(withN_nodes _ _ _ _).2 (.inl h1), by
  show p.2 ≤ (if p.1 = k then now else m.hd p.1) + fail / 2
  rw [if_neg (fun (e : p.1 = k) => hn (e ▸ h1))]
  exact h2⟩
/-- What is kept of the steps of a Tick. -/
structure Tk (fail now : Int) (m m' : Ms) : Prop where
  right : RightV m.v → RightV m'.v
  heard : Heard m now → Heard m' now
  leases : ∀ l, 0 ≤ fail → Leases m fail now l → Leases m' fail now l
  ep : (m'.v = m.v) ∨ (∃ k, k ∈ m.v.nodes ∧ m.v.L.length ≠ 1 ∧ m.v.ep ≠ 274877906944 ∧ m'.v = m.v.cutN k) ∨ m.v.ep + 2 ≤ m'.v.ep
  ge : m.v.ep ≤ m'.v.ep
theorem Tk.refl (fail now : Int) (m : Ms) : Tk fail now m m := ⟨id, id, fun _ _ h => h, .inl rfl, Int.le_refl _⟩
theorem tick_tk (fail now : Int) : ∀ (f : Nat) (m : Ms), Tk fail now m (m.tickF fail now f)
  | 0, m => Tk.refl _ _ _
  | f + 1, m => by
    unfold Ms.tickF
    cases hf : m.v.nodes.find? (m.silent fail now) with
    | none => exact Tk.refl _ _ _
    | some k =>
      obtain ⟨h1, h2⟩ := find_node hf
      show Tk fail now m (if _ then _ else _)
      split
      · exact Tk.refl _ _ _
      rename_i he
      have ih := tick_tk fail now f (m.out k)
      have h3 := silent_two h1 h2
      have e0 : (m.out k).v = m.v.cutN k := rfl
      have e1 : (m.out k).v.ep = m.v.ep + 1 := rfl
      refine ⟨fun h => ih.right (by rw [e0]; exact h.cutN h1 h3 he), fun h => ih.heard h.out, fun l hf h => ih.leases l hf (h.out hf h2), ?_, by have := ih.ge; omega⟩
      rcases ih.ep with h | ⟨j, _, _, _, h⟩ | h
      · exact .inr (.inl ⟨k, h1, h3, he, h.trans e0⟩)
      · refine .inr (.inr ?_)
        rw [h]
        show _ ≤ (m.out k).v.ep + 1
        omega
      · exact .inr (.inr (by omega))
end Go.Proofs.YtoegdpcfhmjnaaaGreatDoor

/- A disk beside a fixed past. Under the stated premises on sizes. -/
namespace Go.Proofs.YtoegdpcfhmjnaaaGreatDoor
open Go.RowKit Go.Bl
attribute [local go_sem ↓] Go.wp_at_zero Go.wp_at_succ

/-- A disk d at p that keeps away from the blocks X (the tables are among them). -/
structure Qd (X : Nat → Prop) (w : World) (p : Nat) (d : Dk) : Prop where
  tabs : Tabs w
  low : ∀ k, k < 2 → X k
  hX : ∀ k, X k → k < w.heap.size
  disk : Dsk X w p d
/-- Only what is not X has turned. -/
abbrev Kx (X : Nat → Prop) (w w' : World) : Prop := Keeps (fun k => ¬ X k) w w'
theorem Kx.below {X : Nat → Prop} {w w' : World} {B : Nat} (h : Kx X w w') (hX : ∀ k, k < B → X k) (hB : B ≤ w.heap.size) : Below B w w' := below_notB h hB hX
theorem Kx.of_below {X : Nat → Prop} {w w' : World} (h : Below w.heap.size w w') : Kx X w w' := Keeps.of_fresh h _
section
variable {X : Nat → Prop} {w w' : World} {p : Nat} {d : Dk}
theorem Qd.step (h : Qd X w p d) {d' : Dk} (hD : Dsk X w' p d') (hk : Kx X w w') : Qd X w' p d' :=
  ⟨h.tabs.keep hk (fun k hk => by have := h.low k; exact Decidable.byContradiction fun hc => hk (this (by omega))) h.tabs.lt, h.low, fun k hk2 => Nat.lt_of_lt_of_le (h.hX k hk2) hk.size, hD⟩
theorem Qd.fresh (h : Qd X w p d) (hB : Below w.heap.size w w') : Qd X w' p d := h.step (h.disk.fresh hB) (Kx.of_below hB)
/-- Blocks of X may be written by others. -/
theorem Qd.keep (h : Qd X w p d) (hk : Keeps X w w') (ht : Tabs w') : Qd X w' p d := ⟨ht, h.low, fun k hk2 => Nat.lt_of_lt_of_le (h.hX k hk2) hk.size, h.disk.keep hk⟩
/-- What is new may join X. -/
theorem Qd.more {X' : Nat → Prop} (h : Qd X w p d) (hB : Below w.heap.size w w') (hm : ∀ k, X' k → X k ∨ w.heap.size ≤ k) (hl : ∀ k, X' k → k < w'.heap.size) (hw : ∀ k, k < 2 → X' k) : Qd X' w' p d :=
  ⟨h.tabs.fresh hB, hw, hl, (h.disk.more hm).fresh hB⟩
theorem Qd.ok (h : Qd X w p d) : d.Ok := h.disk.ok
theorem Qd.nodup (h : Qd X w p d) : (d.L.map Fl.name).Nodup := h.disk.nodup
theorem appendQ (h : Qd X w p d) (x s : ByteArray) (hx : x.size ≤ 1000000) (hs : s.size ≤ 1000000000000000) :
    Calls Tryz.prog 55 #[.pointer (some ⟨p, 0, none⟩), .string x, .string s] w fun e w' => e = .returned (.int .i64 (d.app x s).1) ∧ Qd X w' p (d.app x s).2 ∧ Kx X w w' :=
  (appendD w _ h.hX h.tabs p d h.disk x s hx hs).mono fun _ _ ⟨he, hD, hk⟩ => ⟨he, h.step hD hk, hk⟩
theorem renameQ (h : Qd X w p d) (x y : ByteArray) (hx : x.size ≤ 1000000) (hy : y.size ≤ 1000000) :
    Calls Tryz.prog 58 #[.pointer (some ⟨p, 0, none⟩), .string x, .string y] w fun e w' => e = .returned (.int .i64 (d.ren x y).1) ∧ Qd X w' p (d.ren x y).2 ∧ Kx X w w' :=
  (renameD w _ h.hX h.tabs p d h.disk x y hx hy).mono fun _ _ ⟨he, hD, hk⟩ => ⟨he, h.step hD hk, hk⟩
theorem deleteQ (h : Qd X w p d) (x : ByteArray) (hx : x.size ≤ maxLen) :
    Calls Tryz.prog 57 #[.pointer (some ⟨p, 0, none⟩), .string x] w fun e w' => e = .returned (.int .i64 (if d.find x = none then 6 else 0)) ∧ Qd X w' p (d.del x) ∧ Kx X w w' :=
  (deleteD w _ p d h.disk x hx).mono fun _ _ ⟨he, hD, hk⟩ => ⟨he, h.step hD hk, hk⟩
theorem syncQ (h : Qd X w p d) (x : ByteArray) (hx : x.size ≤ maxLen) :
    Calls Tryz.prog 56 #[.pointer (some ⟨p, 0, none⟩), .string x] w fun e w' => e = .returned (.int .i64 (if d.find x = none then 6 else 0)) ∧ Qd X w' p (d.sync x) ∧ Kx X w w' :=
  (syncD w _ p d h.disk x hx).mono fun _ _ ⟨he, hD, hk⟩ => ⟨he, h.step hD hk, hk⟩
theorem crashQ (h : Qd X w p d) (kv : Value) (keep : List Int) (hk : Sl w X 1 intc kv keep) :
    Calls Tryz.prog 19 #[.pointer (some ⟨p, 0, none⟩), kv] w fun e w' => e = .returned (.tuple #[]) ∧ ∃ ks, Names d.L ks ∧ Qd X w' p ⟨d.room, crashN keep ks d.L ks.length⟩ ∧ Kx X w w' :=
  (crashD w _ p d h.disk kv keep hk).mono fun _ _ ⟨he, ks, hN, hD, hk⟩ => ⟨he, ks, hN, h.step hD hk, hk⟩
theorem readQ (h : Qd X w p d) (x : ByteArray) (hx : x.size ≤ maxLen) : Calls Tryz.prog 29 #[.pointer (some ⟨p, 0, none⟩), .string x] w fun e w' => e = .returned (readV (d.find x)) ∧ w = w' := readD w _ p d h.disk x hx
end


def sTemp : ByteArray := ⟨#[116, 101, 109, 112]⟩
def sViews : ByteArray := ⟨#[118, 105, 101, 119, 115]⟩
theorem temp_name : nameB sTemp = true := by kernel_rfl
theorem views_name : nameB sViews = true := by kernel_rfl
theorem views_temp : sViews ≠ sTemp := by decide
end Go.Proofs.YtoegdpcfhmjnaaaGreatDoor

/- What acts make of a disk, in plain words. Under the stated premises. -/
namespace Go.Proofs.YtoegdpcfhmjnaaaGreatDoor
open Go.RowKit Go.Bl

theorem app_room (d : Dk) (x s : ByteArray) : (d.app x s).2.room = d.room := by
  unfold Dk.app
  split
  · rfl
  · split
    · split
      · rfl
      · split <;> rfl
    · split <;> rfl
theorem app_err {d : Dk} {x s : ByteArray} (h : (d.app x s).1 ≠ 0) : (d.app x s).2 = d := by
  unfold Dk.app at h ⊢
  split
  · rfl
  · rename_i h1
    rw [if_neg h1] at h
    split
    · rename_i h2
      rw [h2] at h
      split
      · rfl
      · rename_i h3
        split
        · rfl
        · rename_i h4
          simp [h3, h4] at h
    · rename_i f h2
      rw [h2] at h
      split
      · rfl
      · rename_i h3
        simp [h3] at h
theorem app_used {d : Dk} (hn : (d.L.map Fl.name).Nodup) (x s : ByteArray) : (d.app x s).2.used ≤ d.used + s.size := by
  unfold Dk.app
  split
  · show d.used ≤ _; omega
  · split
    · split
      · show d.used ≤ _; omega
      · split
        · show d.used ≤ _; omega
        · show (total (d.L ++ [⟨x, s, 0⟩]) : Int) ≤ (total d.L : Int) + _
          rw [total_append]
          show ((total d.L + (s.size + 0) : Nat) : Int) ≤ _
          omega
    · rename_i f hf
      obtain ⟨hfL, rfl⟩ := find_some hf
      split
      · show d.used ≤ _; omega
      · show (total (updL f.name (growF s) d.L) : Int) ≤ (total d.L : Int) + _
        rw [total_grow s d.L f hn hfL]
        omega
theorem del_le (d : Dk) (x : ByteArray) : (d.del x).used ≤ d.used := by
  show (total (d.L.filter _) : Int) ≤ (total d.L : Int)
  have := total_filter_le (fun f => decide (f.name ≠ x)) d.L
  omega
theorem sync_used (d : Dk) (x : ByteArray) : (d.sync x).used = d.used := by
  show (total (updL x syncF d.L) : Int) = _
  rw [total_upd x syncF (fun _ => rfl) d.L]
  rfl
theorem move_used {d : Dk} (hn : (d.L.map Fl.name).Nodup) {f : Fl} (hf : f ∈ d.L) {y : ByteArray} (hy : f.name ≠ y) : (d.move f y).used = (d.del y).used := by
  have hfd : f ∈ (d.del y).L := List.mem_filter.2 ⟨hf, by simpa using hy⟩
  have hn2 : ((d.del y).L.map Fl.name).Nodup := hn.sublist (List.Sublist.map _ List.filter_sublist)
  have htot := total_del hn2 hfd
  show (total (((d.del y).del f.name).L ++ [{ f with name := y }]) : Int) = (total (d.del y).L : Int)
  rw [total_append, ← htot]
  show ((total ((d.del y).L.filter _) + (f.bytes.size + 0) : Nat) : Int) = _
  omega
theorem ren_room (d : Dk) (x y : ByteArray) : (d.ren x y).2.room = d.room := by
  unfold Dk.ren
  split
  · rfl
  · split
    · rfl
    · split <;> rfl
theorem ren_err {d : Dk} {x y : ByteArray} (h : (d.ren x y).1 ≠ 0) : (d.ren x y).2 = d := by
  unfold Dk.ren at h ⊢
  split
  · rfl
  · rename_i f h1
    rw [h1] at h
    split
    · rfl
    · rename_i h2
      split
      · rfl
      · rename_i h3
        simp [h2, h3] at h
theorem ren_used {d : Dk} (hn : (d.L.map Fl.name).Nodup) (x y : ByteArray) : (d.ren x y).2.used ≤ d.used := by
  unfold Dk.ren
  split
  · exact Int.le_refl _
  · rename_i f h1
    obtain ⟨hfL, rfl⟩ := find_some h1
    split
    · exact Int.le_refl _
    · split
      · exact Int.le_refl _
      · rename_i h3
        rw [move_used hn hfL h3]
        exact del_le d y

theorem crashN_ok {keep : List Int} {ks : List ByteArray} {L : List Fl} (h : ∀ f ∈ L, 0 ≤ f.syn ∧ f.syn ≤ f.bytes.size) : ∀ k, ∀ f ∈ crashN keep ks L k, 0 ≤ f.syn ∧ f.syn ≤ f.bytes.size
  | 0 => h
  | k + 1 => by
    intro f hf
    obtain ⟨q, hq, rfl⟩ := List.mem_map.1 (show f ∈ updL _ _ _ from hf)
    have hs := crashN_ok h k q hq
    by_cases e : q.name = (ks[k]?).getD ByteArray.empty
    · rw [if_pos e]
      have hn := keepOf_nonneg keep k
      have h1 := cutF_size hn hs
      have h2 := cutK_in hn hs
      show 0 ≤ cutK _ q ∧ cutK _ q ≤ _
      omega
    · rw [if_neg e]; exact hs
theorem crashN_le {keep : List Int} {ks : List ByteArray} {L : List Fl} (h : ∀ f ∈ L, 0 ≤ f.syn ∧ f.syn ≤ f.bytes.size) : ∀ k, total (crashN keep ks L k) ≤ total L
  | 0 => Nat.le_refl _
  | k + 1 => by
    refine Nat.le_trans (total_upd_le (x := (ks[k]?).getD ByteArray.empty) (g := cutF (keepOf keep k)) fun f hf => ?_) (crashN_le h k)
    have hs := crashN_ok (keep := keep) (ks := ks) h k f hf
    have hn := keepOf_nonneg keep k
    have h1 := cutF_size hn hs
    have h2 := cutK_in hn hs
    omega
/-- All that a disk has is synced. -/
def Whole (L : List Fl) : Prop := ∀ f ∈ L, f.syn = f.bytes.size
theorem crashN_whole {keep : List Int} {ks : List ByteArray} {L : List Fl} (h : ∀ f ∈ L, 0 ≤ f.syn ∧ f.syn ≤ f.bytes.size) : ∀ k, k ≤ ks.length → ∀ f ∈ crashN keep ks L k, f.name ∈ ks.take k → f.syn = f.bytes.size
  | 0, _ => fun f _ hm => by simp at hm
  | k + 1, hk => by
    intro f hf hm
    have hlt : k < ks.length := hk
    rw [crashN_succ keep L hlt] at hf
    obtain ⟨q, hq, rfl⟩ := List.mem_map.1 hf
    have hs := crashN_ok (keep := keep) (ks := ks) h k q hq
    by_cases e : q.name = ks[k]
    · rw [if_pos e]
      exact (cutF_size (keepOf_nonneg keep k) hs).symm
    · rw [if_neg e] at hm ⊢
      refine crashN_whole h k (by omega) q hq ?_
      rw [List.take_succ_eq_append_getElem hlt, List.mem_append, List.mem_singleton] at hm
      exact hm.resolve_right e
theorem crash_whole {keep : List Int} {ks : List ByteArray} {L : List Fl} (h : ∀ f ∈ L, 0 ≤ f.syn ∧ f.syn ≤ f.bytes.size) (hN : Names L ks) : Whole (crashN keep ks L ks.length) := fun f hf => by
  refine crashN_whole h ks.length (Nat.le_refl _) f hf ?_
  rw [List.take_length]
  have h1 : f.name ∈ (crashN keep ks L ks.length).map Fl.name := List.mem_map.2 ⟨f, hf, rfl⟩
  rw [crashN_names] at h1
  obtain ⟨q, hq, e⟩ := List.mem_map.1 h1
  exact (hN.2 _).2 ⟨q, hq, e⟩
theorem cutF_whole {n : Int} {f : Fl} (hn : 0 ≤ n) (h : f.syn = f.bytes.size) : cutF n f = f := by
  have hk : cutK n f = f.bytes.size := by unfold cutK gmin; omega
  unfold cutF
  rw [hk, Int.toNat_natCast]
  have : f.bytes.extract 0 f.bytes.size = f.bytes := ByteArray.extract_zero_size
  rw [this, ← h]
theorem updL_id {x : ByteArray} {g : Fl → Fl} {L : List Fl} (h : ∀ f ∈ L, g f = f) : updL x g L = L := by
  unfold updL
  conv => rhs; rw [← List.map_id L]
  refine List.map_congr_left fun q hq => ?_
  show (if q.name = x then g q else q) = q
  rw [h q hq]
  split <;> rfl
theorem crashN_again {keep : List Int} {ks : List ByteArray} {L : List Fl} (h : Whole L) : ∀ k, crashN keep ks L k = L
  | 0 => rfl
  | k + 1 => by
    show updL _ _ (crashN keep ks L k) = L
    rw [crashN_again h k]
    exact updL_id fun f hf => cutF_whole (keepOf_nonneg keep k) (h f hf)

theorem find_mem {d : Dk} (hn : (d.L.map Fl.name).Nodup) {f : Fl} (hf : f ∈ d.L) : d.find f.name = some f := by
  cases h : d.find f.name with
  | none => exact absurd rfl (find_none.1 h f hf)
  | some g =>
    obtain ⟨h1, h2⟩ := find_some h
    rw [nodup_at hn h1 hf h2]
theorem find_perm {r r' : Int} {L L' : List Fl} (h : L'.Perm L) (hn : (L.map Fl.name).Nodup) (x : ByteArray) : (⟨r, L'⟩ : Dk).find x = (⟨r', L⟩ : Dk).find x := by
  cases hf : (⟨r', L⟩ : Dk).find x with
  | none => exact find_none.2 fun f hf' => find_none.1 hf f (h.mem_iff.1 hf')
  | some f =>
    obtain ⟨h1, rfl⟩ := find_some hf
    exact find_mem (d := ⟨r, L'⟩) ((h.map Fl.name).nodup_iff.2 hn) (h.mem_iff.2 h1)
theorem Names.perm {L L' : List Fl} {ks : List ByteArray} (h : Names L ks) (hp : L'.Perm L) : Names L' ks := ⟨h.1, fun s => by rw [h.2]; exact ⟨fun ⟨f, hf, e⟩ => ⟨f, hp.mem_iff.2 hf, e⟩, fun ⟨f, hf, e⟩ => ⟨f, hp.mem_iff.1 hf, e⟩⟩⟩
end Go.Proofs.YtoegdpcfhmjnaaaGreatDoor

/- A disk whose last file is our own: what acts make of it, in plain words. Under the stated premises. -/
namespace Go.Proofs.YtoegdpcfhmjnaaaGreatDoor
open Go.RowKit Go.Bl

/-- The files L, and one more behind them. -/
def dkL (room : Int) (L : List Fl) (x b : ByteArray) (σ : Int) : Dk := ⟨room, L ++ [⟨x, b, σ⟩]⟩
section
variable {room : Int} {L : List Fl} {x y b s : ByteArray} {σ : Int}
theorem find_last (h : ∀ f ∈ L, f.name ≠ x) : (dkL room L x b σ).find x = some ⟨x, b, σ⟩ := by
  show List.find? _ (L ++ [_]) = _
  rw [List.find?_append, List.find?_eq_none.2 (by simpa using h)]
  simp
theorem find_other (h : ∀ f ∈ L, f.name ≠ y) (hxy : x ≠ y) : (dkL room L x b σ).find y = none := find_none.2 fun f hf => by
  rcases List.mem_append.1 hf with hf | hf
  · exact h f hf
  · obtain rfl := List.mem_singleton.1 hf
    exact hxy
theorem upd_last {g : Fl → Fl} (h : ∀ f ∈ L, f.name ≠ x) : updL x g (dkL room L x b σ).L = L ++ [g ⟨x, b, σ⟩] := by
  show updL x g (L ++ [⟨x, b, σ⟩]) = _
  unfold updL
  rw [List.map_append]
  have := updL_not (g := g) h
  unfold updL at this
  rw [this]
  simp
theorem del_last (h : ∀ f ∈ L, f.name ≠ x) : (dkL room L x b σ).del x = ⟨room, L⟩ := by
  show (⟨room, (L ++ [(⟨x, b, σ⟩ : Fl)]).filter (fun f => decide (f.name ≠ x))⟩ : Dk) = _
  rw [List.filter_append, filter_all h]
  simp
theorem del_not {d : Dk} (h : ∀ f ∈ d.L, f.name ≠ y) : d.del y = d := del_none (find_none.2 h)
theorem used_last : (dkL room L x b σ).used = (total L : Int) + b.size := by
  show (total (L ++ [_]) : Int) = _
  rw [total_append]
  show ((total L + (b.size + 0) : Nat) : Int) = _
  omega
theorem app_new (hn : nameB x = true) (h : ∀ f ∈ L, f.name ≠ x) (hl : L.length < 40) (hr : ¬ room - (total L : Int) < s.size) : (⟨room, L⟩ : Dk).app x s = (0, dkL room L x s 0) := by
  unfold Dk.app
  rw [if_neg (by rw [hn]; decide), find_none.2 h]
  show (if _ then _ else _) = _
  rw [if_neg (by show ¬ 40 ≤ L.length; omega), if_neg (show ¬ (⟨room, L⟩ : Dk).room - (⟨room, L⟩ : Dk).used < s.size from hr)]
  rfl
theorem app_long (hn : nameB x = true) (h : ∀ f ∈ L, f.name ≠ x) (hl : 40 ≤ L.length) : (⟨room, L⟩ : Dk).app x s = (4, ⟨room, L⟩) := by
  unfold Dk.app
  rw [if_neg (by rw [hn]; decide), find_none.2 h]
  show (if _ then _ else _) = _
  rw [if_pos hl]
theorem sync_last (h : ∀ f ∈ L, f.name ≠ x) : (dkL room L x b σ).sync x = dkL room L x b b.size := by
  show (⟨room, updL x syncF (dkL room L x b σ).L⟩ : Dk) = _
  rw [upd_last h]
  rfl
theorem app_last (hn : nameB x = true) (h : ∀ f ∈ L, f.name ≠ x) (hr : ¬ room - ((total L : Int) + b.size) < s.size) : (dkL room L x b σ).app x s = (0, dkL room L x (b ++ s) σ) := by
  unfold Dk.app
  rw [if_neg (by rw [hn]; decide), find_last h]
  show (if _ then _ else _) = _
  rw [if_neg (by rw [used_last]; exact hr)]
  show ((0 : Int), (⟨room, updL x (growF s) (dkL room L x b σ).L⟩ : Dk)) = _
  rw [upd_last h]
  rfl
theorem ren_last (hn : nameB y = true) (h : ∀ f ∈ L, f.name ≠ x) (hy : ∀ f ∈ L, f.name ≠ y) (hxy : x ≠ y) : (dkL room L x b σ).ren x y = (0, dkL room L y b σ) := by
  unfold Dk.ren
  rw [find_last h]
  show (if _ then _ else _) = _
  rw [if_neg (by rw [hn]; decide), if_neg hxy]
  show ((0 : Int), (⟨room, (((dkL room L x b σ).del y).del x).L ++ [⟨y, b, σ⟩]⟩ : Dk)) = _
  rw [del_not (y := y) (fun f hf => find_none.1 (find_other hy hxy) f hf), del_last h]
  rfl
theorem ren_self (hn : nameB x = true) (h : ∀ f ∈ L, f.name ≠ x) : (dkL room L x b σ).ren x x = (0, dkL room L x b σ) := by
  unfold Dk.ren
  rw [find_last h]
  show (if _ then _ else _) = _
  rw [if_neg (by rw [hn]; decide), if_pos rfl]
theorem ren_none (h : ∀ f ∈ L, f.name ≠ y) (hxy : x ≠ y) (z : ByteArray) : (dkL room L x b σ).ren y z = (6, dkL room L x b σ) := by
  unfold Dk.ren
  rw [find_other h hxy]

/-- A crash that keeps as much of each file, where all others are whole. -/
theorem crash_last {keep : List Int} {ks : List ByteArray} {m : Int} (hW : Whole L) (h : ∀ f ∈ L, f.name ≠ x) (hr : Rising ks) (hk : ∀ i, i < ks.length → keepOf keep i = m) (hm : 0 ≤ m) :
    ∀ k, k ≤ ks.length → crashN keep ks (dkL room L x b σ).L k = L ++ [if amid (ks.take k) x = true then cutF m ⟨x, b, σ⟩ else ⟨x, b, σ⟩]
  | 0, _ => by simp [crashN, amid]; rfl
  | k + 1, hk1 => by
    have hlt : k < ks.length := hk1
    rw [crashN_succ keep _ hlt, crash_last hW h hr hk hm k (by omega), hk k hlt]
    unfold updL
    rw [List.map_append]
    have h1 : (L.map fun f => if f.name = ks[k] then cutF m f else f) = L := by
      have := updL_id (x := ks[k]) (g := cutF m) (L := L) (fun f hf => cutF_whole hm (hW f hf))
      exact this
    rw [h1, amid_succ hlt]
    by_cases e : x = ks[k]
    · have e0 : amid (ks.take k) x = false := by rw [e]; exact amid_not hlt hr
      rw [e0]
      simp [e]
    · cases ha : amid (ks.take k) x
      · simp [e]
      · have hcn : (cutF m ⟨x, b, σ⟩).name = x := rfl
        simp [e, hcn]
end
def sOwn : ByteArray := ⟨#[111, 119, 110]⟩
def sOther : ByteArray := ⟨#[111, 116, 104, 101, 114]⟩
def sThird : ByteArray := ⟨#[116, 104, 105, 114, 100]⟩
theorem own_name : nameB sOwn = true := by kernel_rfl
theorem other_name : nameB sOther = true := by kernel_rfl
theorem own_ne : sOwn ≠ sOther := by decide
end Go.Proofs.YtoegdpcfhmjnaaaGreatDoor

namespace Go.Proofs.YtoegdpcfhmjnaaaGreatDoor
open Go.RowKit Go.Bl

/-- A disk that keeps views, and nothing else. -/
def mvD (room : Int) (vs : List Vw) : Dk := ⟨room, if vs = [] then [] else [⟨sViews, Bl (vsL vs), (Bl (vsL vs)).size⟩]⟩
def keepV (vs : List Vw) (v : Vw) : List Vw := if vs.length ≤ 20 then vs ++ [v] else [v]
theorem keepV_ne (vs : List Vw) (v : Vw) : keepV vs v ≠ [] := by unfold keepV; split <;> simp
theorem keepV_len (vs : List Vw) (v : Vw) : (keepV vs v).length ≤ 21 := by unfold keepV; split <;> simp <;> omega
theorem keepV_last (a : Vw) (vs : List Vw) (v : Vw) : lastV a (keepV vs v) = v := by
  unfold keepV
  split
  · exact lastV_snoc a vs v
  · rfl
theorem keepV_up {vs : List Vw} {v : Vw} (h : VsUp 0 vs) (hv : (lastV ⟨0, []⟩ vs).ep < v.ep) (hr : RightV v) : VsUp 0 (keepV vs v) := by
  unfold keepV
  split
  · exact vsUp_snoc (a := ⟨0, []⟩) h hv hr
  · exact ⟨by have := hr.ep1; omega, hr, trivial⟩
theorem mvD_some {room : Int} {vs : List Vw} (h : vs ≠ []) : mvD room vs = dkL room [] sViews (Bl (vsL vs)) (Bl (vsL vs)).size := by
  unfold mvD dkL
  rw [if_neg h]
  rfl
theorem mvD_read (room : Int) (vs : List Vw) : ∃ er : Int, readV ((mvD room vs).find sViews) = .tuple #[.string (Bl (vsL vs)), .int .i64 er] ∧ (vs = [] → er = 6) ∧ (vs ≠ [] → er = 0) := by
  by_cases h : vs = []
  · subst h
    exact ⟨6, rfl, fun _ => rfl, fun h => absurd rfl h⟩
  · rw [mvD_some h, find_last (fun _ h => by cases h)]
    exact ⟨0, rfl, fun e => absurd e h, fun _ => rfl⟩
theorem mvD_temp {room : Int} {vs : List Vw} : ∀ f ∈ (mvD room vs).L, f.name ≠ sTemp := fun f hf => by
  unfold mvD at hf
  split at hf
  · cases hf
  · obtain rfl := List.mem_singleton.1 hf
    exact views_temp
theorem mvD_find_temp {room : Int} {vs : List Vw} : (mvD room vs).find sTemp = none := find_none.2 mvD_temp
theorem mvD_del {room : Int} {vs : List Vw} : (mvD room vs).del sTemp = mvD room vs := del_none mvD_find_temp
theorem Bl_app (a b : List UInt8) : Bl a ++ Bl b = Bl (a ++ b) := (Bl_append a b).symm
/-- One view more. -/
theorem mvD_app {room : Int} {vs : List Vw} {v : Vw} (hu : VsUp 0 vs) (hv : RightV v) (hr : 128 * ((vs.length : Int) + 1) ≤ room) :
    (mvD room vs).app sViews (Bl (vfL v)) = (0, ((mvD room vs).app sViews (Bl (vfL v))).2) ∧ (((mvD room vs).app sViews (Bl (vfL v))).2.find sViews ≠ none) ∧ ((mvD room vs).app sViews (Bl (vfL v))).2.sync sViews = mvD room (vs ++ [v]) := by
  have hl := (vfL_len hv).2
  have hs := vsL_len hu
  have hvs : vsL (vs ++ [v]) = vsL vs ++ vfL v := by unfold vsL; simp
  by_cases h : vs = []
  · subst h
    have h1 := app_new (room := room) (L := []) (x := sViews) (s := Bl (vfL v)) views_name (fun _ h => by cases h) (by decide) (by
      show ¬ room - ((0 : Nat) : Int) < _
      rw [Bl_size]
      simp only [List.length_nil] at hr
      omega)
    rw [show (mvD room []) = (⟨room, []⟩ : Dk) from rfl, h1]
    refine ⟨rfl, ?_, ?_⟩
    · rw [find_last (fun _ h => by cases h)]; simp
    · show (dkL room [] sViews (Bl (vfL v)) 0).sync sViews = _
      rw [sync_last (fun _ h => by cases h), mvD_some (by simp), hvs]
      rfl
  · have h1 := app_last (room := room) (L := []) (x := sViews) (b := Bl (vsL vs)) (σ := (Bl (vsL vs)).size) (s := Bl (vfL v)) views_name (fun _ h => by cases h) (by
      show ¬ room - (((0 : Nat) : Int) + _) < _
      rw [Bl_size, Bl_size]
      omega)
    rw [mvD_some h, h1]
    refine ⟨rfl, ?_, ?_⟩
    · rw [find_last (fun _ h => by cases h)]; simp
    · show (dkL room [] sViews (Bl (vsL vs) ++ Bl (vfL v)) _).sync sViews = _
      rw [sync_last (fun _ h => by cases h), mvD_some (by simp), hvs, Bl_app]
/-- That view alone. -/
theorem mvD_new {room : Int} {vs : List Vw} {v : Vw} (hne : vs ≠ []) (hu : VsUp 0 vs) (hv : RightV v) (hr : 128 * ((vs.length : Int) + 1) ≤ room) :
    (mvD room vs).app sTemp (Bl (vfL v)) = (0, ((mvD room vs).app sTemp (Bl (vfL v))).2) ∧ (((mvD room vs).app sTemp (Bl (vfL v))).2.find sTemp ≠ none) ∧
      (((mvD room vs).app sTemp (Bl (vfL v))).2.sync sTemp).ren sTemp sViews = (0, mvD room [v]) := by
  have hl := (vfL_len hv).2
  have hs := vsL_len hu
  have hL : (mvD room vs).L = [⟨sViews, Bl (vsL vs), (Bl (vsL vs)).size⟩] := by unfold mvD; rw [if_neg hne]
  have hm : mvD room vs = ⟨room, [⟨sViews, Bl (vsL vs), (Bl (vsL vs)).size⟩]⟩ := by rw [← hL]; rfl
  have hn : ∀ f ∈ [(⟨sViews, Bl (vsL vs), (Bl (vsL vs)).size⟩ : Fl)], f.name ≠ sTemp := fun f hf => by
    obtain rfl := List.mem_singleton.1 hf
    exact views_temp
  have h1 := app_new (room := room) (x := sTemp) (s := Bl (vfL v)) temp_name hn (by show 1 < 40; decide) (by
    show ¬ room - (((Bl (vsL vs)).size + 0 : Nat) : Int) < _
    rw [Bl_size, Bl_size]
    omega)
  rw [hm, h1]
  refine ⟨rfl, ?_, ?_⟩
  · rw [find_last hn]; simp
  · show ((dkL room _ sTemp (Bl (vfL v)) 0).sync sTemp).ren sTemp sViews = _
    rw [sync_last hn]
    unfold Dk.ren
    rw [find_last hn]
    show (if nameB sViews = false then _ else if sTemp = sViews then _ else _) = _
    rw [if_neg (by rw [views_name]; decide), if_neg (Ne.symm views_temp), mvD_some (by simp)]
    have h2 : vsL [v] = vfL v := by unfold vsL; simp
    rw [h2]
    rfl
end Go.Proofs.YtoegdpcfhmjnaaaGreatDoor
