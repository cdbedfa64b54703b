/- SnapshotKeeps: what the statement's function does: it answers true. Under the tables that utf8 lays. -/
import Derived.Test.YthebmbhdlkldiaaGreatDoorDskK
import Derived.Test.YthebmbhdlkldiaaGreatDoorSnpM
import Derived.Test.YthebmbhdlkldiaaGreatDoorSnpB
import Derived.Test.YthebmbhdlkldiaaGreatDoorDskY
import Derived.Test.YthebmbhdlkldiaaGreatDoorSnpF
import Derived.Test.YthebmbhdlkldiaaGreatDoorParH
/- A disk whose last file is our own: what acts make of it, in plain words. Under the stated premises. -/
namespace Go.Proofs.YthebmbhdlkldiaaGreatDoor.Dsk
open Go.RowKit Go.Bl

/-- The files L, and one more behind them. -/
def dkL (room : Int) (L : List Fl) (x b : ByteArray) (σ : Int) : Dk := ⟨room, L ++ [⟨x, b, σ⟩]⟩
section
variable {room : Int} {L : List Fl} {x y b s : ByteArray} {σ : Int}
theorem find_last (h : ∀ f ∈ L, f.name ≠ x) : (dkL room L x b σ).find x = some ⟨x, b, σ⟩ := by
  show List.find? _ (L ++ [_]) = _
  rw [List.find?_append, List.find?_eq_none.2 (by simpa using h)]
  simp
theorem find_other (h : ∀ f ∈ L, f.name ≠ y) (hxy : x ≠ y) : (dkL room L x b σ).find y = none := find_none.2 fun f hf => by
  rcases List.mem_append.1 hf with hf | hf
  · exact h f hf
  · obtain rfl := List.mem_singleton.1 hf
    exact hxy
theorem upd_last {g : Fl → Fl} (h : ∀ f ∈ L, f.name ≠ x) : updL x g (dkL room L x b σ).L = L ++ [g ⟨x, b, σ⟩] := by
  show updL x g (L ++ [⟨x, b, σ⟩]) = _
  unfold updL
  rw [List.map_append]
  have := updL_not (g := g) h
  unfold updL at this
  rw [this]
  simp
theorem del_last (h : ∀ f ∈ L, f.name ≠ x) : (dkL room L x b σ).del x = ⟨room, L⟩ := by
  show (⟨room, (L ++ [(⟨x, b, σ⟩ : Fl)]).filter (fun f => decide (f.name ≠ x))⟩ : Dk) = _
  rw [List.filter_append, filter_all h]
  simp
theorem del_not {d : Dk} (h : ∀ f ∈ d.L, f.name ≠ y) : d.del y = d := del_none (find_none.2 h)
theorem used_last : (dkL room L x b σ).used = (total L : Int) + b.size := by
  show (total (L ++ [_]) : Int) = _
  rw [total_append]
  show ((total L + (b.size + 0) : Nat) : Int) = _
  omega
theorem app_new (hn : nameB x = true) (h : ∀ f ∈ L, f.name ≠ x) (hl : L.length < 40) (hr : ¬ room - (total L : Int) < s.size) : (⟨room, L⟩ : Dk).app x s = (0, dkL room L x s 0) := by
  unfold Dk.app
  rw [if_neg (by rw [hn]; decide), find_none.2 h]
  show (if _ then _ else _) = _
  rw [if_neg (by show ¬ 40 ≤ L.length; omega), if_neg (show ¬ (⟨room, L⟩ : Dk).room - (⟨room, L⟩ : Dk).used < s.size from hr)]
  rfl
theorem app_long (hn : nameB x = true) (h : ∀ f ∈ L, f.name ≠ x) (hl : 40 ≤ L.length) : (⟨room, L⟩ : Dk).app x s = (4, ⟨room, L⟩) := by
  unfold Dk.app
  rw [if_neg (by rw [hn]; decide), find_none.2 h]
  show (if _ then _ else _) = _
  rw [if_pos hl]
theorem sync_last (h : ∀ f ∈ L, f.name ≠ x) : (dkL room L x b σ).sync x = dkL room L x b b.size := by
  show (⟨room, updL x syncF (dkL room L x b σ).L⟩ : Dk) = _
  rw [upd_last h]
  rfl
theorem app_last (hn : nameB x = true) (h : ∀ f ∈ L, f.name ≠ x) (hr : ¬ room - ((total L : Int) + b.size) < s.size) : (dkL room L x b σ).app x s = (0, dkL room L x (b ++ s) σ) := by
  unfold Dk.app
  rw [if_neg (by rw [hn]; decide), find_last h]
  show (if _ then _ else _) = _
  rw [if_neg (by rw [used_last]; exact hr)]
  show ((0 : Int), (⟨room, updL x (growF s) (dkL room L x b σ).L⟩ : Dk)) = _
  rw [upd_last h]
  rfl
theorem ren_last (hn : nameB y = true) (h : ∀ f ∈ L, f.name ≠ x) (hy : ∀ f ∈ L, f.name ≠ y) (hxy : x ≠ y) : (dkL room L x b σ).ren x y = (0, dkL room L y b σ) := by
  unfold Dk.ren
  rw [find_last h]
  show (if _ then _ else _) = _
  rw [if_neg (by rw [hn]; decide), if_neg hxy]
  show ((0 : Int), (⟨room, (((dkL room L x b σ).del y).del x).L ++ [⟨y, b, σ⟩]⟩ : Dk)) = _
  rw [del_not (y := y) (fun f hf => find_none.1 (find_other hy hxy) f hf), del_last h]
  rfl
theorem ren_self (hn : nameB x = true) (h : ∀ f ∈ L, f.name ≠ x) : (dkL room L x b σ).ren x x = (0, dkL room L x b σ) := by
  unfold Dk.ren
  rw [find_last h]
  show (if _ then _ else _) = _
  rw [if_neg (by rw [hn]; decide), if_pos rfl]
theorem ren_none (h : ∀ f ∈ L, f.name ≠ y) (hxy : x ≠ y) (z : ByteArray) : (dkL room L x b σ).ren y z = (6, dkL room L x b σ) := by
  unfold Dk.ren
  rw [find_other h hxy]

/-- A crash that keeps as much of each file, where all others are whole. -/
theorem crash_last {keep : List Int} {ks : List ByteArray} {m : Int} (hW : Whole L) (h : ∀ f ∈ L, f.name ≠ x) (hr : Rising ks) (hk : ∀ i, i < ks.length → keepOf keep i = m) (hm : 0 ≤ m) :
    ∀ k, k ≤ ks.length → crashN keep ks (dkL room L x b σ).L k = L ++ [if amid (ks.take k) x = true then cutF m ⟨x, b, σ⟩ else ⟨x, b, σ⟩]
  | 0, _ => by simp [crashN, amid]; rfl
  | k + 1, hk1 => by
    have hlt : k < ks.length := hk1
    rw [crashN_succ keep _ hlt, crash_last hW h hr hk hm k (by omega), hk k hlt]
    unfold updL
    rw [List.map_append]
    have h1 : (L.map fun f => if f.name = ks[k] then cutF m f else f) = L := by
      have := updL_id (x := ks[k]) (g := cutF m) (L := L) (fun f hf => cutF_whole hm (hW f hf))
      exact this
    rw [h1, amid_succ hlt]
    by_cases e : x = ks[k]
    · have e0 : amid (ks.take k) x = false := by rw [e]; exact amid_not hlt hr
      rw [e0]
      simp [e]
    · cases ha : amid (ks.take k) x
      · simp [e]
      · have hcn : (cutF m ⟨x, b, σ⟩).name = x := rfl
        simp [e, hcn]
end
def sOwn : ByteArray := ⟨#[111, 119, 110]⟩
def sOther : ByteArray := ⟨#[111, 116, 104, 101, 114]⟩
def sThird : ByteArray := ⟨#[116, 104, 105, 114, 100]⟩
theorem own_name : nameB sOwn = true := by kernel_rfl
theorem other_name : nameB sOther = true := by kernel_rfl
theorem own_ne : sOwn ≠ sOther := by decide
end Go.Proofs.YthebmbhdlkldiaaGreatDoor.Dsk

/- Files written as a whole; which files acts leave alone: in plain words. Under the stated premises. -/
namespace Go.Proofs.YthebmbhdlkldiaaGreatDoor.Dsk
open Go.RowKit Go.Bl

def sTemp : ByteArray := ⟨#[116, 101, 109, 112]⟩
def sSnap : ByteArray := ⟨#[115, 110, 97, 112]⟩
def sT : ByteArray := ⟨#[116]⟩
/-- A file written as a whole: the error and the disk. -/
def Dk.wr (d : Dk) (x s : ByteArray) : Int × Dk :=
  if ((d.del sTemp).app sTemp s).1 = 0 then ((((d.del sTemp).app sTemp s).2).sync sTemp).ren sTemp x
  else (((d.del sTemp).app sTemp s).1, (((d.del sTemp).app sTemp s).2).del sTemp)
theorem temp_name : nameB sTemp = true := by kernel_rfl
theorem snap_name : nameB sSnap = true := by kernel_rfl
theorem snap_temp : sSnap ≠ sTemp := by decide
/-- All but temp and x. -/
def restL (L : List Fl) (x : ByteArray) : List Fl := (L.filter fun f => decide (f.name ≠ sTemp)).filter fun f => decide (f.name ≠ x)
theorem restL_temp {L : List Fl} {x : ByteArray} : ∀ f ∈ restL L x, f.name ≠ sTemp := fun f hf => by simpa using (List.mem_filter.1 (List.mem_filter.1 hf).1).2
theorem del_temp (d : Dk) : ∀ f ∈ (d.del sTemp).L, f.name ≠ sTemp := fun f hf => by simpa using (List.mem_filter.1 hf).2
/-- A file written as a whole where there is room. -/
theorem wr_ok {d : Dk} {x s : ByteArray} (hx : nameB x = true) (hne : x ≠ sTemp) (hl : d.L.length < 40) (hr : ¬ d.room - (d.del sTemp).used < s.size) : d.wr x s = (0, ⟨d.room, restL d.L x ++ [⟨x, s, s.size⟩]⟩) := by
  have hl2 : (d.del sTemp).L.length < 40 := Nat.lt_of_le_of_lt (List.length_filter_le _ _) hl
  have ha : (d.del sTemp).app sTemp s = (0, dkL d.room (d.del sTemp).L sTemp s 0) := app_new (room := d.room) (L := (d.del sTemp).L) temp_name (del_temp d) hl2 hr
  unfold Dk.wr
  rw [ha, if_pos rfl]
  show (((dkL d.room (d.del sTemp).L sTemp s 0).sync sTemp).ren sTemp x) = _
  rw [sync_last (del_temp d)]
  unfold Dk.ren
  rw [find_last (del_temp d)]
  show (if _ then _ else _) = _
  rw [if_neg (by rw [hx]; decide), if_neg (fun e => hne e.symm)]
  show ((0 : Int), (⟨d.room, (((dkL d.room (d.del sTemp).L sTemp s s.size).del x).del sTemp).L ++ [⟨x, s, s.size⟩]⟩ : Dk)) = _
  congr 2
  congr 1
  show (((d.del sTemp).L ++ [(⟨sTemp, s, s.size⟩ : Fl)]).filter (fun f => decide (f.name ≠ x))).filter (fun f => decide (f.name ≠ sTemp)) = restL d.L x
  rw [List.filter_append, List.filter_append]
  have e1 : ([(⟨sTemp, s, s.size⟩ : Fl)].filter fun f => decide (f.name ≠ x)).filter (fun f => decide (f.name ≠ sTemp)) = [] := by
    rw [List.filter_eq_nil_iff]
    intro f hf
    have := List.mem_singleton.1 (List.mem_filter.1 hf).1
    subst this
    simp
  rw [e1, List.append_nil]
  show ((d.L.filter fun f => decide (f.name ≠ sTemp)).filter fun f => decide (f.name ≠ x)).filter (fun f => decide (f.name ≠ sTemp)) = restL d.L x
  exact filter_all restL_temp
/-- A file for which there is no room. -/
theorem wr_full {d : Dk} {x s : ByteArray} (hl : d.L.length < 40) (hr : d.room - (d.del sTemp).used < s.size) : d.wr x s = (8, d.del sTemp) := by
  have hl2 : (d.del sTemp).L.length < 40 := Nat.lt_of_le_of_lt (List.length_filter_le _ _) hl
  have ha : (d.del sTemp).app sTemp s = (8, d.del sTemp) := by
    unfold Dk.app
    rw [if_neg (by rw [temp_name]; decide), find_none.2 (del_temp d)]
    show (if _ then _ else _) = _
    rw [if_neg (by omega), if_pos (show (d.del sTemp).room - (d.del sTemp).used < s.size from hr)]
  unfold Dk.wr
  rw [ha, if_neg (show ¬ (8 : Int) = 0 by decide)]
  show ((8 : Int), (d.del sTemp).del sTemp) = _
  rw [del_not (y := sTemp) (del_temp d)]

theorem find_map_name (r : Int) (L : List Fl) (x y : ByteArray) (g : Fl → Fl) (hg : ∀ f, (g f).name = f.name) (hxy : y ≠ x) : (⟨r, updL x g L⟩ : Dk).find y = (⟨r, L⟩ : Dk).find y := by
  unfold Dk.find updL
  induction L with
  | nil => rfl
  | cons f L ih =>
    rw [List.map_cons, List.find?_cons, List.find?_cons]
    by_cases e : f.name = x
    · rw [if_pos e]
      have h1 : decide ((g f).name = y) = false := by rw [hg, e, decide_eq_false_iff_not]; exact fun h => hxy h.symm
      have h2 : decide (f.name = y) = false := by rw [e, decide_eq_false_iff_not]; exact fun h => hxy h.symm
      rw [h1, h2]
      exact ih
    · rw [if_neg e]
      cases decide (f.name = y)
      · exact ih
      · rfl
theorem find_filter (r r' : Int) (L : List Fl) (x y : ByteArray) (hxy : y ≠ x) : (⟨r, L.filter fun f => decide (f.name ≠ x)⟩ : Dk).find y = (⟨r', L⟩ : Dk).find y := by
  unfold Dk.find
  induction L with
  | nil => rfl
  | cons f L ih =>
    rw [List.filter_cons, List.find?_cons]
    by_cases e : f.name = x
    · have h2 : decide (f.name = y) = false := by rw [e, decide_eq_false_iff_not]; exact fun h => hxy h.symm
      rw [if_neg (by simp [e]), h2]
      exact ih
    · rw [if_pos (by simpa using e), List.find?_cons]
      cases decide (f.name = y)
      · exact ih
      · rfl
theorem find_del (d : Dk) {x y : ByteArray} (hxy : y ≠ x) : (d.del x).find y = d.find y := find_filter _ _ _ _ _ hxy
theorem find_sync (d : Dk) {x y : ByteArray} (hxy : y ≠ x) : (d.sync x).find y = d.find y := find_map_name _ _ _ _ syncF (fun _ => rfl) hxy
theorem find_app (d : Dk) {x y : ByteArray} (s : ByteArray) (hxy : y ≠ x) : (d.app x s).2.find y = d.find y := by
  unfold Dk.app
  split
  · rfl
  · split
    · split
      · rfl
      · split
        · rfl
        · show List.find? _ (d.L ++ [_]) = _
          rw [List.find?_append]
          have h2 : List.find? (fun f => decide (f.name = y)) [(⟨x, s, 0⟩ : Fl)] = none := by simp; exact fun h => hxy h.symm
          rw [h2, Option.or_none]
          rfl
    · split
      · rfl
      · exact find_map_name _ _ _ _ (growF s) (fun _ => rfl) hxy
/-- A file that is whole is there behind a crash. -/
theorem find_crash (r r' : Int) (keep : List Int) (ks : List ByteArray) (L : List Fl) (hn : (L.map Fl.name).Nodup) {y : ByteArray} {f : Fl} (hy : (⟨r, L⟩ : Dk).find y = some f) (hs : f.syn = f.bytes.size) : ∀ k, (⟨r', crashN keep ks L k⟩ : Dk).find y = some f
  | 0 => hy
  | k + 1 => by
    have ih := find_crash r r' keep ks L hn hy hs k
    obtain ⟨hf, hfy⟩ := find_some ih
    show (⟨r', updL _ _ (crashN keep ks L k)⟩ : Dk).find y = _
    by_cases e : y = (ks[k]?).getD ByteArray.empty
    · have hnn : ((crashN keep ks L k).map Fl.name).Nodup := by rw [crashN_names]; exact hn
      have h1 : updL ((ks[k]?).getD ByteArray.empty) (cutF (keepOf keep k)) (crashN keep ks L k) = crashN keep ks L k := by
        unfold updL
        conv => rhs; rw [← List.map_id (crashN keep ks L k)]
        refine List.map_congr_left fun q hq => ?_
        by_cases e2 : q.name = (ks[k]?).getD ByteArray.empty
        · have hqf : q = f := nodup_at hnn hq hf (by rw [e2, hfy, ← e])
          rw [if_pos e2, hqf, cutF_whole (keepOf_nonneg keep k) hs]
          rfl
        · rw [if_neg e2]; rfl
      rw [h1]
      exact ih
    · rw [find_map_name r' (crashN keep ks L k) _ y (cutF (keepOf keep k)) (fun _ => rfl) e]
      exact ih
theorem find_crash_none (r r' : Int) (keep : List Int) (ks : List ByteArray) (L : List Fl) {y : ByteArray} (hy : (⟨r, L⟩ : Dk).find y = none) (k : Nat) : (⟨r', crashN keep ks L k⟩ : Dk).find y = none := by
  rw [find_none] at hy ⊢
  intro f hf e
  have h1 : f.name ∈ L.map Fl.name := by rw [← crashN_names keep ks L k]; exact List.mem_map.2 ⟨f, hf, rfl⟩
  obtain ⟨g, hg, e2⟩ := List.mem_map.1 h1
  exact hy g hg (e2.trans e)
theorem find_snoc (r : Int) (L : List Fl) (f : Fl) (h : ∀ g ∈ L, g.name ≠ f.name) : (⟨r, L ++ [f]⟩ : Dk).find f.name = some f := by
  unfold Dk.find
  rw [List.find?_append, List.find?_eq_none.2 (by simpa using h)]
  simp
/-- Which names there are. -/
def NamesIn (S : List ByteArray) (d : Dk) : Prop := ∀ f ∈ d.L, f.name ∈ S
theorem nodup_sub : ∀ (l S : List ByteArray), l.Nodup → (∀ x ∈ l, x ∈ S) → l.length ≤ S.length
  | [], _, _, _ => Nat.zero_le _
  | x :: l, S, hn, h => by
    rw [List.nodup_cons] at hn
    have hx := h x (List.mem_cons_self ..)
    have ih := nodup_sub l (S.filter fun y => decide (y ≠ x)) hn.2 (fun y hy => List.mem_filter.2 ⟨h y (List.mem_cons_of_mem _ hy), decide_eq_true fun e => hn.1 (by rw [← e]; exact hy)⟩)
    have h2 := (List.length_filter_lt_length_iff_exists (p := fun y => decide (y ≠ x)) (l := S)).2 ⟨x, hx, by simp⟩
    rw [List.length_cons]
    omega
theorem NamesIn.len {S : List ByteArray} {d : Dk} (h : NamesIn S d) (hn : (d.L.map Fl.name).Nodup) : d.L.length ≤ S.length := by
  have h2 := nodup_sub _ S hn (fun x hx => by obtain ⟨f, hf, rfl⟩ := List.mem_map.1 hx; exact h f hf)
  rw [List.length_map] at h2
  exact h2
theorem used_del (d : Dk) (x : ByteArray) : (d.del x).used ≤ d.used := by
  show ((total (d.L.filter fun f => decide (f.name ≠ x)) : Nat) : Int) ≤ ((total d.L : Nat) : Int)
  have := total_filter_le (fun f : Fl => decide (f.name ≠ x)) d.L
  omega
/-- Behind a crash. -/
theorem del_len (d : Dk) (x : ByteArray) : (d.del x).L.length ≤ d.L.length := List.length_filter_le _ _
theorem app_len (d : Dk) (x s : ByteArray) : (d.app x s).2.L.length ≤ d.L.length + 1 := by
  unfold Dk.app
  split
  · exact Nat.le_succ _
  · split
    · split
      · exact Nat.le_succ _
      · split
        · exact Nat.le_succ _
        · show (d.L ++ [_]).length ≤ _
          rw [List.length_append]
          exact Nat.le_refl _
    · split
      · exact Nat.le_succ _
      · show (updL x (growF s) d.L).length ≤ _
        unfold updL
        rw [List.length_map]
        exact Nat.le_succ _
theorem sync_len (d : Dk) (x : ByteArray) : (d.sync x).L.length = d.L.length := by
  show (updL x syncF d.L).length = _
  unfold updL
  rw [List.length_map]
end Go.Proofs.YthebmbhdlkldiaaGreatDoor.Dsk

/- The system's disk beside a fixed past; snapshot.Save. Under the stated premises on sizes. -/
namespace Go.Proofs.YthebmbhdlkldiaaGreatDoor.Dsk
open Go.RowKit Go.Bl
attribute [local go_sem ↓] Go.wp_at_zero Go.wp_at_succ

/-- A disk d at p that keeps away from the blocks X (the tables are among them). -/
structure Qd (X : Nat → Prop) (w : World) (p : Nat) (d : Dk) : Prop where
  tabs : Tabs w
  low : ∀ k, k < 2 → X k
  hX : ∀ k, X k → k < w.heap.size
  disk : Dsk X w p d
/-- Only what is not X has turned. -/
abbrev Kx (X : Nat → Prop) (w w' : World) : Prop := Keeps (fun k => ¬ X k) w w'
theorem Kx.below {X : Nat → Prop} {w w' : World} {B : Nat} (h : Kx X w w') (hX : ∀ k, k < B → X k) (hB : B ≤ w.heap.size) : Below B w w' := below_notB h hB hX
theorem Kx.of_below {X : Nat → Prop} {w w' : World} (h : Below w.heap.size w w') : Kx X w w' := Keeps.of_fresh h _
section
variable {X : Nat → Prop} {w w' : World} {p : Nat} {d : Dk}
theorem Qd.step (h : Qd X w p d) {d' : Dk} (hD : Dsk X w' p d') (hk : Kx X w w') : Qd X w' p d' :=
  ⟨h.tabs.keep hk (fun k hk => by have := h.low k; exact Decidable.byContradiction fun hc => hk (this (by omega))) h.tabs.lt, h.low, fun k hk2 => Nat.lt_of_lt_of_le (h.hX k hk2) hk.size, hD⟩
theorem Qd.fresh (h : Qd X w p d) (hB : Below w.heap.size w w') : Qd X w' p d := h.step (h.disk.fresh hB) (Kx.of_below hB)
/-- Blocks of X may be written by others. -/
theorem Qd.keep (h : Qd X w p d) (hk : Keeps X w w') (ht : Tabs w') : Qd X w' p d := ⟨ht, h.low, fun k hk2 => Nat.lt_of_lt_of_le (h.hX k hk2) hk.size, h.disk.keep hk⟩
/-- What is new may join X. -/
theorem Qd.more {X' : Nat → Prop} (h : Qd X w p d) (hB : Below w.heap.size w w') (hm : ∀ k, X' k → X k ∨ w.heap.size ≤ k) (hl : ∀ k, X' k → k < w'.heap.size) (hw : ∀ k, k < 2 → X' k) : Qd X' w' p d :=
  ⟨h.tabs.fresh hB, hw, hl, (h.disk.more hm).fresh hB⟩
theorem Qd.ok (h : Qd X w p d) : d.Ok := h.disk.ok
theorem Qd.nodup (h : Qd X w p d) : (d.L.map Fl.name).Nodup := h.disk.nodup
theorem appendQ (h : Qd X w p d) (x s : ByteArray) (hx : x.size ≤ 1000000) (hs : s.size ≤ 1000000000000000) :
    Calls Tryz.prog 23 #[.pointer (some ⟨p, 0, none⟩), .string x, .string s] w fun e w' => e = .returned (.int .i64 (d.app x s).1) ∧ Qd X w' p (d.app x s).2 ∧ Kx X w w' :=
  (appendD w _ h.hX h.tabs p d h.disk x s hx hs).mono fun _ _ ⟨he, hD, hk⟩ => ⟨he, h.step hD hk, hk⟩
theorem renameQ (h : Qd X w p d) (x y : ByteArray) (hx : x.size ≤ 1000000) (hy : y.size ≤ 1000000) :
    Calls Tryz.prog 72 #[.pointer (some ⟨p, 0, none⟩), .string x, .string y] w fun e w' => e = .returned (.int .i64 (d.ren x y).1) ∧ Qd X w' p (d.ren x y).2 ∧ Kx X w w' :=
  (renameD w _ h.hX h.tabs p d h.disk x y hx hy).mono fun _ _ ⟨he, hD, hk⟩ => ⟨he, h.step hD hk, hk⟩
theorem deleteQ (h : Qd X w p d) (x : ByteArray) (hx : x.size ≤ maxLen) :
    Calls Tryz.prog 70 #[.pointer (some ⟨p, 0, none⟩), .string x] w fun e w' => e = .returned (.int .i64 (if d.find x = none then 6 else 0)) ∧ Qd X w' p (d.del x) ∧ Kx X w w' :=
  (deleteD w _ p d h.disk x hx).mono fun _ _ ⟨he, hD, hk⟩ => ⟨he, h.step hD hk, hk⟩
theorem syncQ (h : Qd X w p d) (x : ByteArray) (hx : x.size ≤ maxLen) :
    Calls Tryz.prog 71 #[.pointer (some ⟨p, 0, none⟩), .string x] w fun e w' => e = .returned (.int .i64 (if d.find x = none then 6 else 0)) ∧ Qd X w' p (d.sync x) ∧ Kx X w w' :=
  (syncD w _ p d h.disk x hx).mono fun _ _ ⟨he, hD, hk⟩ => ⟨he, h.step hD hk, hk⟩
theorem crashQ (h : Qd X w p d) (kv : Value) (keep : List Int) (hk : Sl w X 1 intc kv keep) :
    Calls Tryz.prog 25 #[.pointer (some ⟨p, 0, none⟩), kv] w fun e w' => e = .returned (.tuple #[]) ∧ ∃ ks, Names d.L ks ∧ Qd X w' p ⟨d.room, crashN keep ks d.L ks.length⟩ ∧ Kx X w w' :=
  (crashD w _ p d h.disk kv keep hk).mono fun _ _ ⟨he, ks, hN, hD, hk⟩ => ⟨he, ks, hN, h.step hD hk, hk⟩
theorem readQ (h : Qd X w p d) (x : ByteArray) (hx : x.size ≤ maxLen) : Calls Tryz.prog 80 #[.pointer (some ⟨p, 0, none⟩), .string x] w fun e w' => e = .returned (readV (d.find x)) ∧ w = w' := readD w _ p d h.disk x hx
theorem usedQ (h : Qd X w p d) : Calls Tryz.prog 28 #[.pointer (some ⟨p, 0, none⟩)] w fun e w' => e = .returned (.int .i64 d.used) ∧ w = w' := usedD w _ p d h.disk
end

set_option maxRecDepth 8000 in
set_option maxHeartbeats 1000000 in
theorem saveQ {X : Nat → Prop} {w : World} {p : Nat} {d : Dk} (h : Qd X w p d) (ps : Nat) (st : St) (F W : Nat → Prop) (hst : StAt w ps st F W) (hF : ∀ k, F k → X k) (hr : Rch st) (hL : st.L.length ≤ 400) (hTl : st.T.length ≤ 100) (hstr : ∀ o ∈ st.L, o.stream.size ≤ 1000000)
    (s : ByteArray) (hse : Bl (snpB (ptOf st)) = s) :
    Calls Tryz.prog 21 #[.pointer (some ⟨p, 0, none⟩), .pointer (some ⟨ps, 0, none⟩)] w fun e w' => e = .returned (.int .i64 (d.wr sSnap s).1) ∧ Qd X w' p (d.wr sSnap s).2 ∧ Kx X w w' := by
  have hs : s.size ≤ 1000000000000000 := by
    have := (hr.small hL hTl).len
    rw [← hse, Bl_size, snpB_len]
    omega
  have hcall := fun (wz : World) (hz : Tabs wz) (hs : StAt wz ps st F W) => snapPut_any wz hz ps st F W hs hr hL hTl hstr
  rw [hse] at hcall
  have HCALL := Lib.hid hcall
  have H := Lib.hid h
  have HST := Lib.hid hst
  have HFX := Lib.hid hF
  clear h hst hF hcall hse
  obtain ⟨x, hxe⟩ : ∃ x, x = sSnap := ⟨_, rfl⟩
  have Hx : Hid (x.size ≤ 1000000) := Lib.hid (by rw [hxe]; decide)
  have HXE := Lib.hid hxe
  have Hs := Lib.hid hs
  clear hs
  rw [← hxe]
  clear hxe
  go_enter Tryz.func21, Tryz.ntmps21
  go_wp2_with fail
  refine (deleteQ H.out ⟨#[116, 101, 109, 112]⟩ (by decide)).mono ?_
  rintro e w1 ⟨rfl, h1, k1⟩
  have K1 := Lib.hid k1
  clear k1
  have H1 := Lib.hid h1
  obtain ⟨ev, hev⟩ : ∃ ev : Int, (if d.find ⟨#[116, 101, 109, 112]⟩ = none then (6 : Int) else 0) = ev := ⟨_, rfl⟩
  rw [hev]
  clear h1 hev
  have HP := Lib.hid (HCALL.out w1 H1.out.tabs (HST.out.keep K1.out (fun k hk e => e (HFX.out k hk))))
  go_wp2_with fail
  refine HP.out.mono ?_
  rintro e w1p ⟨rfl, hB1⟩
  have H1 := Lib.hid (H1.out.fresh hB1)
  have K1 := Lib.hid (K1.out.trans (Kx.of_below hB1))
  clear hB1 HP
  go_wp2_with fail
  refine (appendQ H1.out ⟨#[116, 101, 109, 112]⟩ s (by decide) Hs.out).mono ?_
  rintro e w2 ⟨rfl, h2, k2⟩
  have K2 := Lib.hid (K1.out.trans k2)
  clear k2
  obtain ⟨er, her⟩ : ∃ ev : Int, ((d.del ⟨#[116, 101, 109, 112]⟩).app ⟨#[116, 101, 109, 112]⟩ s).1 = ev := ⟨_, rfl⟩
  obtain ⟨d2, hd2⟩ : ∃ ev : Dk, ((d.del ⟨#[116, 101, 109, 112]⟩).app ⟨#[116, 101, 109, 112]⟩ s).2 = ev := ⟨_, rfl⟩
  rw [hd2] at h2
  rw [her]
  have H2 := Lib.hid h2
  have HW : Hid (d.wr x s = if er = 0 then (d2.sync sTemp).ren sTemp x else (er, d2.del sTemp)) := Lib.hid (by unfold Dk.wr; rw [← her, ← hd2]; rfl)
  clear h2 her hd2
  by_cases e0 : er = 0
  · have HW0 : Hid (d.wr x s = (d2.sync sTemp).ren sTemp x) := Lib.hid (by rw [HW.out, if_pos e0])
    clear HW
    subst e0
    go_wp2_with fail
    refine (syncQ H2.out ⟨#[116, 101, 109, 112]⟩ (by decide)).mono ?_
    rintro e w3 ⟨rfl, h3, k3⟩
    have K3 := Lib.hid (K2.out.trans k3)
    clear k3
    have H3 := Lib.hid h3
    obtain ⟨ev, hev⟩ : ∃ ev : Int, (if d2.find ⟨#[116, 101, 109, 112]⟩ = none then (6 : Int) else 0) = ev := ⟨_, rfl⟩
    rw [hev]
    clear h3 hev
    go_wp2_with fail
    refine (renameQ H3.out ⟨#[116, 101, 109, 112]⟩ ⟨#[115, 110, 97, 112]⟩ (by decide) (by decide)).mono ?_
    rintro e w4 ⟨rfl, h4, k4⟩
    have K4 := Lib.hid (K3.out.trans k4)
    clear k4
    have H4 := Lib.hid h4
    clear h4
    obtain ⟨er, her⟩ : ∃ ev : Int, ((d2.sync ⟨#[116, 101, 109, 112]⟩).ren ⟨#[116, 101, 109, 112]⟩ ⟨#[115, 110, 97, 112]⟩).1 = ev := ⟨_, rfl⟩
    rw [her]
    have HR := Lib.hid her
    clear her
    go_wp2_with fail
    go_ret
    rw [HW0.out, ← HR.out, HXE.out]
    exact ⟨rfl, H4.out, K4.out⟩
  · have en : (er != 0) = true := by simpa using e0
    go_wp2_with fail
    refine (deleteQ H2.out ⟨#[116, 101, 109, 112]⟩ (by decide)).mono ?_
    rintro e w3 ⟨rfl, h3, k3⟩
    have K3 := Lib.hid (K2.out.trans k3)
    clear k3
    have H3 := Lib.hid h3
    obtain ⟨ev, hev⟩ : ∃ ev : Int, (if d2.find ⟨#[116, 101, 109, 112]⟩ = none then (6 : Int) else 0) = ev := ⟨_, rfl⟩
    rw [hev]
    clear h3 hev
    go_wp2_with fail
    go_ret
    rw [HW.out, if_neg e0]
    exact ⟨rfl, H3.out, K3.out⟩
theorem load_none {X : Nat → Prop} {w : World} {p : Nat} {d : Dk} (h : Qd X w p d) (hf : d.find sSnap = none) : Calls Tryz.prog 27 #[.pointer (some ⟨p, 0, none⟩)] w fun e w' => e = .returned (.tuple #[.pointer none, .int .i64 6]) ∧ Below w.heap.size w w' := by
  have hr := readQ h sSnap (by decide)
  rw [hf] at hr
  change Calls _ _ #[_, .string ⟨#[115, 110, 97, 112]⟩] w fun e w' => e = .returned (.tuple #[.string ⟨#[]⟩, .int .i64 6]) ∧ w = w' at hr
  have HR := Lib.hid hr
  clear h hr
  go_enter Tryz.func27, Tryz.ntmps27
  go_wp2_with fail
  refine HR.out.mono ?_
  rintro e w1 ⟨rfl, rfl⟩
  go_wp2_with fail
  go_ret2
  exact ⟨rfl, Below.refl _ _⟩
theorem load_some {X : Nat → Prop} {w : World} {p : Nat} {d : Dk} (h : Qd X w p d) {f : Fl} (hf : d.find sSnap = some f) {pt : Pt} (hp : PtSm pt) (hb : f.bytes = Bl (snpB pt)) :
    Calls Tryz.prog 27 #[.pointer (some ⟨p, 0, none⟩)] w fun e w' => ∃ q F W, e = .returned (.tuple #[.pointer (some ⟨q, 0, none⟩), .int .i64 0]) ∧ StAt w' q (stOf pt) F W ∧ (∀ k, F k → w.heap.size ≤ k) ∧ Below w.heap.size w w' := by
  have hr := readQ h sSnap (by decide)
  rw [hf] at hr
  change Calls _ _ #[_, .string ⟨#[115, 110, 97, 112]⟩] w fun e w' => e = .returned (.tuple #[.string f.bytes, .int .i64 0]) ∧ w = w' at hr
  rw [hb] at hr
  have HR := Lib.hid hr
  have HC := Lib.hid (snapTake_ok w h.tabs pt hp)
  obtain ⟨t, ht⟩ : ∃ t, Bl (snpB pt) = t := ⟨_, rfl⟩
  rw [ht] at HR HC
  clear h hr ht
  go_enter Tryz.func27, Tryz.ntmps27
  go_wp2_with fail
  refine HR.out.mono ?_
  rintro e w1 ⟨rfl, rfl⟩
  go_wp2_with fail
  refine HC.out.mono ?_
  rintro e w2 ⟨q, F, W, rfl, hS, hF, hB⟩
  have HS := Lib.hid hS
  have HF := Lib.hid hF
  have HB := Lib.hid hB
  clear hS hF hB
  go_wp2_with fail
  go_ret2
  exact ⟨q, F, W, rfl, HS.out, HF.out, HB.out⟩
end Go.Proofs.YthebmbhdlkldiaaGreatDoor.Dsk

/- The document's disk beside a fixed past; ref16.Save. Under the stated premises on sizes. -/
namespace Go.Proofs.YthebmbhdlkldiaaGreatDoor.Dsk
open Go.RowKit Go.Bl
attribute [local go_sem ↓] Go.wp_at_zero Go.wp_at_succ

/-- The document's disk d at m, that keeps away from the blocks X. -/
structure Rd (X : Nat → Prop) (w : World) (m : Nat) (d : Dk) : Prop where
  hX : ∀ k, X k → k < w.heap.size
  disk : ∃ F, MdD w m d F ∧ ∀ k, F k → ¬ X k
section
variable {X : Nat → Prop} {w w' : World} {m : Nat} {d : Dk}
theorem Rd.fresh (h : Rd X w m d) (hB : Below w.heap.size w w') : Rd X w' m d := by
  obtain ⟨hX, F, hF, hd⟩ := h
  exact ⟨fun k hk => Nat.lt_of_lt_of_le (hX k hk) hB.size, F, hF.fresh hB, hd⟩
theorem Rd.keep (h : Rd X w m d) (hk : Keeps X w w') : Rd X w' m d := by
  obtain ⟨hX, F, hF, hd⟩ := h
  exact ⟨fun k h2 => Nat.lt_of_lt_of_le (hX k h2) hk.size, F, hF.keep hk hd, hd⟩
theorem Rd.more {X' : Nat → Prop} (h : Rd X w m d) (hB : Below w.heap.size w w') (hm : ∀ k, X' k → X k ∨ w.heap.size ≤ k) (hl : ∀ k, X' k → k < w'.heap.size) : Rd X' w' m d := by
  obtain ⟨hX, F, hF, hd⟩ := h
  exact ⟨hl, F, hF.fresh hB, fun k hk hx => (hm k hx).elim (hd k hk) (fun h2 => by have := hF.lt k hk; omega)⟩
theorem Rd.less {X' : Nat → Prop} (h : Rd X w m d) (hm : ∀ k, X' k → X k) : Rd X' w m d := by
  obtain ⟨hX, F, hF, hd⟩ := h
  exact ⟨fun k hk => hX k (hm k hk), F, hF, fun k hk hx => hd k hk (hm k hx)⟩
theorem Rd.nodup (h : Rd X w m d) : (d.L.map Fl.name).Nodup := by
  obtain ⟨_, F, ⟨S, _, hs⟩, _⟩ := h
  exact hs.nodup
theorem Rd.out {d' : Dk} {F : Nat → Prop} (hX : ∀ k, X k → k < w.heap.size) (hd : ∀ k, F k → ¬ X k) (h : MOut w w' m d' F) : Rd X w' m d' ∧ Kx X w w' := by
  obtain ⟨h1, h2⟩ := h
  exact ⟨⟨fun k hk => Nat.lt_of_lt_of_le (hX k hk) h1.size, _, h2, fun k hk hx => hk.elim (fun h => hd k h hx) (fun h => by have := hX k hx; omega)⟩, h1.mono (fun k _ h => hd k h)⟩
theorem appendR (h : Rd X w m d) (hl : d.L.length ≤ 1000) (ht : d.used ≤ 1000000000000) (x s : ByteArray) (hx : x.size ≤ 1000000) (hs : s.size ≤ 1000000000) :
    Calls Tryz.prog 24 #[.pointer (some ⟨m, 0, none⟩), .string x, .string s] w fun e w' => e = .returned (.int .i64 (d.app x s).1) ∧ Rd X w' m (d.app x s).2 ∧ Kx X w w' := by
  obtain ⟨hX, F, hF, hd⟩ := h
  exact (mappend_any w m d F hF hl ht x s hx hs).mono fun _ _ h => ⟨h.1, Rd.out hX hd h.2⟩
theorem renameR (h : Rd X w m d) (hl : d.L.length ≤ 1000) (x y : ByteArray) (hy : y.size ≤ 1000000) :
    Calls Tryz.prog 75 #[.pointer (some ⟨m, 0, none⟩), .string x, .string y] w fun e w' => e = .returned (.int .i64 (d.ren x y).1) ∧ Rd X w' m (d.ren x y).2 ∧ Kx X w w' := by
  obtain ⟨hX, F, hF, hd⟩ := h
  exact (mrename_any w m d F hF hl x y hy).mono fun _ _ h => ⟨h.1, Rd.out hX hd h.2⟩
theorem deleteR (h : Rd X w m d) (hl : d.L.length ≤ 1000) (x : ByteArray) :
    Calls Tryz.prog 73 #[.pointer (some ⟨m, 0, none⟩), .string x] w fun e w' => e = .returned (.int .i64 (if d.find x = none then 6 else 0)) ∧ Rd X w' m (d.del x) ∧ Kx X w w' := by
  obtain ⟨hX, F, hF, hd⟩ := h
  exact (mdelete_any w m d F hF hl x).mono fun _ _ h => ⟨h.1, Rd.out hX hd h.2⟩
theorem syncR (h : Rd X w m d) (hl : d.L.length ≤ 1000) (x : ByteArray) :
    Calls Tryz.prog 74 #[.pointer (some ⟨m, 0, none⟩), .string x] w fun e w' => e = .returned (.int .i64 (if d.find x = none then 6 else 0)) ∧ Rd X w' m (d.sync x) ∧ Kx X w w' := by
  obtain ⟨hX, F, hF, hd⟩ := h
  exact (msync_any w m d F hF hl x).mono fun _ _ h => ⟨h.1, Rd.out hX hd h.2⟩
theorem crashR (h : Rd X w m d) (hl : d.L.length ≤ 1000) (hok : ∀ f ∈ d.L, 0 ≤ f.syn ∧ f.syn ≤ f.bytes.size ∧ f.bytes.size ≤ 1073741824) (kv : Value) (keep : List Int) (hk : Sl w X 1 intc kv keep) :
    Calls Tryz.prog 26 #[.pointer (some ⟨m, 0, none⟩), kv] w fun e w' => e = .returned (.tuple #[]) ∧ ∃ ks, Names d.L ks ∧ Rd X w' m ⟨d.room, crashN keep ks d.L ks.length⟩ ∧ Kx X w w' := by
  obtain ⟨hX, F, hF, hd⟩ := h
  exact (mcrash_any w m d F X hF hl hok kv keep hk (fun k hx hf => hd k hf hx)).mono fun _ _ h => by
    obtain ⟨h1, ks, h2, h3⟩ := h
    exact ⟨h1, ks, h2, Rd.out hX hd h3⟩
end
set_option maxRecDepth 8000 in
set_option maxHeartbeats 2000000 in
theorem writeR {X : Nat → Prop} {w : World} {m : Nat} {d : Dk} (h : Rd X w m d) (hl : d.L.length ≤ 100) (hu : d.used ≤ 1000000000000) (G : Nat → Prop) (pt : Pt) (sv rv : Value) (hpt : PtAt w G sv rv pt) (hG : ∀ k, k < w.heap.size → G k → X k) (hsm : PtSm pt) (s : ByteArray) (hse : Bl (snpB pt) = s) :
    Calls Tryz.prog 22 #[.pointer (some ⟨m, 0, none⟩), .agg #[.int .i64 pt.ap, sv, rv]] w fun e w' => e = .returned (.int .i64 (d.wr sSnap s).1) ∧ Rd X w' m (d.wr sSnap s).2 ∧ Kx X w w' := by
  have hs : s.size ≤ 1000000000 := by
    have := hsm.len
    rw [← hse, Bl_size, snpB_len]
    omega
  obtain ⟨As, cs, rfl, _, _⟩ := hpt.ss.shape
  obtain ⟨Ar, cr, rfl, _, _⟩ := hpt.rs.shape
  have hB0 : Below w.heap.size w (w.alloc (.cells #[.int .i64 pt.ap, .slice As pt.ss.length cs, .slice Ar pt.rs.length cr] 37)) := (Below.refl _ w).alloc (Nat.le_refl _) _
  have hg0 := heap_alloc_new w (.cells #[.int .i64 pt.ap, .slice As pt.ss.length cs, .slice Ar pt.rs.length cr] 37)
  have hX0 : ∀ k, k < w.heap.size → G k → X k := hG
  have H := Lib.hid h
  have l1 := del_len d sTemp
  have u1 := used_del d sTemp
  have l2 := app_len (d.del sTemp) sTemp s
  have l3 := sync_len ((d.del sTemp).app sTemp s).2 sTemp
  have L1 : Hid ((d.del sTemp).L.length ≤ 1000) := Lib.hid (by omega)
  have L2 : Hid (((d.del sTemp).app sTemp s).2.L.length ≤ 1000) := Lib.hid (by omega)
  have L3 : Hid ((((d.del sTemp).app sTemp s).2.sync sTemp).L.length ≤ 1000) := Lib.hid (by omega)
  have U1 : Hid ((d.del sTemp).used ≤ 1000000000000) := Lib.hid (by omega)
  have L0 : Hid (d.L.length ≤ 1000) := Lib.hid (by omega)
  clear h l1 u1 l2 l3 hl hu
  obtain ⟨x, hxe⟩ : ∃ x, x = sSnap := ⟨_, rfl⟩
  have Hx : Hid (x.size ≤ 1000000) := Lib.hid (by rw [hxe]; decide)
  have HXE := Lib.hid hxe
  have Hs := Lib.hid hs
  have HG := Lib.hid hX0
  have HPT := Lib.hid hpt
  have HSM := Lib.hid hsm
  have HSE := Lib.hid hse
  clear hs hpt hsm hse hG hX0
  rw [← hxe]
  clear hxe
  go_enter Tryz.func22, Tryz.ntmps22
  go_upto_region 1 with (fail)
  generalize w.alloc (.cells #[.int .i64 pt.ap, .slice As pt.ss.length cs, .slice Ar pt.rs.length cr] 37) = w0 at hB0 hg0 ⊢
  obtain ⟨g, hg⟩ : ∃ g, w.heap.size = g := ⟨_, rfl⟩
  rw [hg] at hg0 ⊢
  have HB0 := Lib.hid hB0
  have HX0 : Hid (∀ k, X k → k < w.heap.size) := Lib.hid H.out.hX
  have HG0 := Lib.hid hg0
  have H := Lib.hid (show Rd (fun k => X k ∨ k = g) w0 m d from H.out.more hB0 (fun k hk => hk.elim .inl (fun e => .inr (by rw [e, ← hg]; exact Nat.le_refl _))) (fun k hk => hk.elim (fun h => Nat.lt_of_lt_of_le (HX0.out k h) hB0.size) (fun e => by rw [e]; exact (Array.getElem?_eq_some_iff.1 hg0).1)))
  have HP1 := Lib.hid (show PtAt w0 (fun k => X k) (.slice As pt.ss.length cs) (.slice Ar pt.rs.length cr) pt from (HPT.out.mono (fun k hk h => HG.out k hk h)).fresh hB0)
  clear hB0 hg0 hg
  go_wp2_with fail
  refine (deleteR H.out L0.out ⟨#[116, 101, 109, 112]⟩).mono ?_
  rintro e w1 ⟨rfl, h1, k1⟩
  have K1 := Lib.hid k1
  clear k1
  have H1 := Lib.hid h1
  obtain ⟨ev, hev⟩ : ∃ ev : Int, (if d.find ⟨#[116, 101, 109, 112]⟩ = none then (6 : Int) else 0) = ev := ⟨_, rfl⟩
  rw [hev]
  clear h1 hev
  have hg1 := K1.out.grownTo HG0.out (fun e => e (.inr rfl))
  have x0 := cell_of_row w1 g 0 _ _ _ hg1
  have x1 := cell_of_row w1 g 1 _ _ _ hg1
  have x2 := cell_of_row w1 g 2 _ _ _ hg1
  have hPC := r16put_any w1 _ pt _ _ (HP1.out.keep K1.out (fun k _ h e => e (.inl h))) HSM.out
  rw [HSE.out] at hPC
  have HPC := Lib.hid hPC
  clear hg1 hPC
  go_wp2_with fail
  refine HPC.out.mono ?_
  rintro e w1p ⟨rfl, hB1⟩
  have H1 := Lib.hid (H1.out.fresh hB1)
  have K1 := Lib.hid (K1.out.trans (Kx.of_below hB1))
  clear hB1 HPC x0 x1 x2
  go_wp2_with fail
  refine (appendR H1.out L1.out U1.out ⟨#[116, 101, 109, 112]⟩ s (by decide) Hs.out).mono ?_
  rintro e w2 ⟨rfl, h2, k2⟩
  have K2 := Lib.hid (K1.out.trans k2)
  clear k2
  obtain ⟨er, her⟩ : ∃ ev : Int, ((d.del ⟨#[116, 101, 109, 112]⟩).app ⟨#[116, 101, 109, 112]⟩ s).1 = ev := ⟨_, rfl⟩
  obtain ⟨d2, hd2⟩ : ∃ ev : Dk, ((d.del ⟨#[116, 101, 109, 112]⟩).app ⟨#[116, 101, 109, 112]⟩ s).2 = ev := ⟨_, rfl⟩
  rw [hd2] at h2
  rw [show ((d.del sTemp).app sTemp s).2 = d2 from hd2] at L2 L3
  rw [her]
  have H2 := Lib.hid h2
  have HW : Hid (d.wr x s = if er = 0 then (d2.sync sTemp).ren sTemp x else (er, d2.del sTemp)) := Lib.hid (by unfold Dk.wr; rw [← her, ← hd2]; rfl)
  clear h2 her hd2
  by_cases e0 : er = 0
  · have HW0 : Hid (d.wr x s = (d2.sync sTemp).ren sTemp x) := Lib.hid (by rw [HW.out, if_pos e0])
    clear HW
    subst e0
    go_wp2_with fail
    refine (syncR H2.out L2.out ⟨#[116, 101, 109, 112]⟩).mono ?_
    rintro e w3 ⟨rfl, h3, k3⟩
    have K3 := Lib.hid (K2.out.trans k3)
    clear k3
    have H3 := Lib.hid h3
    obtain ⟨ev, hev⟩ : ∃ ev : Int, (if d2.find ⟨#[116, 101, 109, 112]⟩ = none then (6 : Int) else 0) = ev := ⟨_, rfl⟩
    rw [hev]
    clear h3 hev
    go_wp2_with fail
    refine (renameR H3.out L3.out ⟨#[116, 101, 109, 112]⟩ ⟨#[115, 110, 97, 112]⟩ (by decide)).mono ?_
    rintro e w4 ⟨rfl, h4, k4⟩
    have K4 := Lib.hid (K3.out.trans k4)
    clear k4
    have H4 := Lib.hid h4
    clear h4
    obtain ⟨er, her⟩ : ∃ ev : Int, ((d2.sync ⟨#[116, 101, 109, 112]⟩).ren ⟨#[116, 101, 109, 112]⟩ ⟨#[115, 110, 97, 112]⟩).1 = ev := ⟨_, rfl⟩
    rw [her]
    have HR := Lib.hid her
    clear her
    go_wp2_with fail
    go_ret
    rw [HW0.out, HXE.out]
    exact ⟨by rw [← HR.out]; rfl, H4.out.less (fun k h => .inl h), (Keeps.of_fresh HB0.out _).andThen K4.out (fun k hk h hx => h (.inl hx))⟩
  · have HW0 : Hid (d.wr x s = (er, d2.del sTemp)) := Lib.hid (by rw [HW.out, if_neg e0])
    have d0 : (er != 0) = true := by simpa using e0
    clear HW e0
    go_wp2_with fail
    refine (deleteR H2.out L2.out ⟨#[116, 101, 109, 112]⟩).mono ?_
    rintro e w3 ⟨rfl, h3, k3⟩
    have K3 := Lib.hid (K2.out.trans k3)
    clear k3
    have H3 := Lib.hid h3
    obtain ⟨ev, hev⟩ : ∃ ev : Int, (if d2.find ⟨#[116, 101, 109, 112]⟩ = none then (6 : Int) else 0) = ev := ⟨_, rfl⟩
    rw [hev]
    clear h3 hev
    go_wp2_with fail
    go_ret
    rw [HW0.out]
    exact ⟨rfl, H3.out.less (fun k h => .inl h), (Keeps.of_fresh HB0.out _).andThen K3.out (fun k hk h hx => h (.inl hx))⟩
end Go.Proofs.YthebmbhdlkldiaaGreatDoor.Dsk

/- Both disks side by side; what they have, in plain words. Under the stated premises on sizes. -/
namespace Go.Proofs.YthebmbhdlkldiaaGreatDoor.Dsk
open Go.RowKit Go.Bl

/-- The system's disk d at p, the document's disk e at m, behind what there was; their blocks lie ahead of nD, of nM. -/
structure PD (w0 w : World) (nD nM p m : Nat) (d e : Dk) : Prop where
  ex : ∃ F Fm : Nat → Prop, DskAt w p d F ∧ MdD w m e Fm ∧ (∀ k, F k → ¬ Fm k) ∧ (∀ k, F k → w0.heap.size ≤ k ∧ k < nD) ∧ (∀ k, Fm k → w0.heap.size ≤ k ∧ k < nM)
  bel : Below w0.heap.size w0 w
  nd : nD ≤ w.heap.size
  nm : nM ≤ w.heap.size
section
variable {w0 w w' : World} {nD nM p m : Nat} {d e : Dk}
theorem PD.fresh (h : PD w0 w nD nM p m d e) (hb : Below w.heap.size w w') : PD w0 w' nD nM p m d e := by
  obtain ⟨F, Fm, h1, h2, h3, h4, h5⟩ := h.ex
  exact ⟨⟨F, Fm, h1.fresh hb, h2.fresh hb, h3, h4, h5⟩, h.bel.trans (hb.mono h.bel.size), Nat.le_trans h.nd hb.size, Nat.le_trans h.nm hb.size⟩
theorem PD.ok (h : PD w0 w nD nM p m d e) : d.Ok ∧ (d.L.map Fl.name).Nodup ∧ (e.L.map Fl.name).Nodup := by
  obtain ⟨F, Fm, h1, ⟨S, _, hs⟩, _⟩ := h.ex
  refine ⟨h1.ok, ?_, hs.nodup⟩
  obtain ⟨bm, R, h1⟩ := h1
  exact h1.nodup
theorem PD.sys (h : PD w0 w nD nM p m d e) (hT : Tabs w) (h2 : 2 ≤ w0.heap.size) : ∃ X : Nat → Prop, Qd X w p d ∧ (∀ k, k < w.heap.size → (k < w0.heap.size ∨ nD ≤ k) → X k) ∧ ∀ w' d', Qd X w' p d' → Kx X w w' → PD w0 w' w'.heap.size nM p m d' e := by
  obtain ⟨F, Fm, h1, hM, h3, h4, h5⟩ := h.ex
  have hz := h.bel.size
  refine ⟨fun k => k < w.heap.size ∧ ¬ F k, ⟨hT, fun k hk => ⟨by omega, fun hf => by have := (h4 k hf).1; omega⟩, fun k hk => hk.1, ⟨F, h1, fun k hk hx => hx.2 hk⟩⟩, fun k hk ho => ⟨hk, fun hf => by have := h4 k hf; omega⟩, fun w' d' hQ hk => ?_⟩
  obtain ⟨F', hD', hF'⟩ := hQ.disk
  refine ⟨⟨F', Fm, hD', hM.keep hk (fun k hk hx => hx ⟨hM.lt k hk, fun hf => h3 k hf hk⟩), fun k hk hm => hF' k hk ⟨hM.lt k hm, fun hf => h3 k hf hm⟩, fun k hk => ⟨?_, hD'.lt k hk⟩, h5⟩, ?_, Nat.le_refl _, Nat.le_trans h.nm hk.size⟩
  · apply Decidable.byContradiction
    intro hc
    exact hF' k hk ⟨by omega, fun hf => by have := (h4 k hf).1; omega⟩
  · refine Below.keep h.bel hk hz (fun k hk => ?_)
    apply Decidable.byContradiction
    intro hc
    exact hk ⟨by omega, fun hf => by have := (h4 k hf).1; omega⟩
theorem PD.doc (h : PD w0 w nD nM p m d e) : ∃ X : Nat → Prop, Rd X w m e ∧ (∀ k, k < w.heap.size → (k < w0.heap.size ∨ nM ≤ k) → X k) ∧ ∀ w' e', Rd X w' m e' → Kx X w w' → PD w0 w' nD w'.heap.size p m d e' := by
  obtain ⟨F, Fm, h1, hM, h3, h4, h5⟩ := h.ex
  have hz := h.bel.size
  refine ⟨fun k => k < w.heap.size ∧ ¬ Fm k, ⟨fun k hk => hk.1, Fm, hM, fun k hk hx => hx.2 hk⟩, fun k hk ho => ⟨hk, fun hf => by have := h5 k hf; omega⟩, fun w' e' hQ hk => ?_⟩
  obtain ⟨_, F', hD', hF'⟩ := hQ
  refine ⟨⟨F, F', h1.keep hk (fun k hk hx => hx ⟨h1.lt k hk, h3 k hk⟩), hD', fun k hk hm => hF' k hm ⟨h1.lt k hk, h3 k hk⟩, h4, fun k hk => ⟨?_, hD'.lt k hk⟩⟩, ?_, Nat.le_trans h.nd hk.size, Nat.le_refl _⟩
  · apply Decidable.byContradiction
    intro hc
    exact hF' k hk ⟨by omega, fun hf => by have := (h5 k hf).1; omega⟩
  · refine Below.keep h.bel hk hz (fun k hk => ?_)
    apply Decidable.byContradiction
    intro hc
    exact hk ⟨by omega, fun hf => by have := (h5 k hf).1; omega⟩
end
def nowB (o : Option St) : ByteArray := match o with | none => ⟨#[]⟩ | some s => Bl (snpB (ptOf s))
/-- The disk's files: what was saved last is there, whole. -/
structure DI (d : Dk) (o : Option St) : Prop where
  nm : NamesIn [sTemp, sSnap] d
  no : o = none → d.find sSnap = none
  yes : ∀ s, o = some s → d.find sSnap = some ⟨sSnap, nowB o, (nowB o).size⟩
theorem DI.len {d : Dk} {o : Option St} (h : DI d o) (hn : (d.L.map Fl.name).Nodup) : d.L.length ≤ 2 := h.nm.len hn
theorem DI.new (room : Int) : DI ⟨room, []⟩ none := ⟨fun f hf => (by cases hf), fun _ => rfl, fun s h => by cases h⟩
theorem DI.find {d d' : Dk} {o : Option St} (h : DI d o) (hm : NamesIn [sTemp, sSnap] d') (he : d'.find sSnap = d.find sSnap) : DI d' o := ⟨hm, fun ho => he.trans (h.no ho), fun s hs => he.trans (h.yes s hs)⟩
theorem names_del {S : List ByteArray} {d : Dk} (h : NamesIn S d) (x : ByteArray) : NamesIn S (d.del x) := fun f hf => h f (List.mem_filter.1 hf).1
theorem updL_in (x : ByteArray) (g : Fl → Fl) (hg : ∀ f, (g f).name = f.name) (L : List Fl) : ∀ f ∈ updL x g L, ∃ q ∈ L, q.name = f.name := by
  intro f hf
  obtain ⟨q, hq, rfl⟩ := List.mem_map.1 hf
  refine ⟨q, hq, ?_⟩
  split
  · exact (hg q).symm
  · rfl
theorem names_app {S : List ByteArray} {d : Dk} (h : NamesIn S d) {x s : ByteArray} (hx : x ∈ S) : NamesIn S (d.app x s).2 := by
  unfold Dk.app
  split
  · exact h
  · split
    · split
      · exact h
      · split
        · exact h
        · intro f hf
          rcases List.mem_append.1 hf with e | e
          · exact h f e
          · rw [List.mem_singleton.1 e]; exact hx
    · split
      · exact h
      · intro f hf
        obtain ⟨q, hq, e⟩ := updL_in x (growF s) (fun _ => rfl) d.L f hf
        rw [← e]
        exact h q hq
theorem DI.app {d : Dk} {o : Option St} (h : DI d o) (s : ByteArray) : DI (d.app sTemp s).2 o := h.find (names_app h.nm (by simp)) (find_app d s snap_temp)
theorem DI.crash {d : Dk} {o : Option St} (h : DI d o) (hn : (d.L.map Fl.name).Nodup) (keep : List Int) (ks : List ByteArray) (k : Nat) : DI ⟨d.room, crashN keep ks d.L k⟩ o := by
  refine ⟨fun f hf => ?_, fun ho => find_crash_none d.room d.room keep ks d.L (h.no ho) k, fun s hs => find_crash d.room d.room keep ks d.L hn (h.yes s hs) rfl k⟩
  have h1 : f.name ∈ d.L.map Fl.name := by rw [← crashN_names keep ks d.L k]; exact List.mem_map.2 ⟨f, hf, rfl⟩
  obtain ⟨g, hg, e⟩ := List.mem_map.1 h1
  rw [← e]
  exact h.nm g hg
theorem DI.wr {d : Dk} {o : Option St} (h : DI d o) (hn : (d.L.map Fl.name).Nodup) (st : St) : ((d.wr sSnap (nowB (some st))).1 = 0 ∧ DI (d.wr sSnap (nowB (some st))).2 (some st)) ∨ ((d.wr sSnap (nowB (some st))).1 = 8 ∧ DI (d.wr sSnap (nowB (some st))).2 o) := by
  have hl := h.len hn
  by_cases hr : d.room - (d.del sTemp).used < (nowB (some st)).size
  · right
    rw [wr_full (x := sSnap) (by omega) hr]
    exact ⟨rfl, h.find (names_del h.nm _) (find_del d snap_temp)⟩
  · left
    rw [wr_ok snap_name snap_temp (by omega) hr]
    have hno : ∀ g ∈ restL d.L sSnap, g.name ≠ sSnap := fun g hg => by simpa using (List.mem_filter.1 hg).2
    refine ⟨rfl, fun f hf => ?_, fun ho => (by cases ho), fun s _ => find_snoc d.room (restL d.L sSnap) ⟨sSnap, nowB (some st), (nowB (some st)).size⟩ hno⟩
    rcases List.mem_append.1 hf with e | e
    · exact h.nm f (List.mem_filter.1 (List.mem_filter.1 e).1).1
    · rw [List.mem_singleton.1 e]; simp
theorem wr_room (d : Dk) (x s : ByteArray) : (d.wr x s).2.room = d.room := by
  unfold Dk.wr
  split
  · show ((((d.del sTemp).app sTemp s).2.sync sTemp).ren sTemp x).2.room = _
    rw [ren_room]
    show ((d.del sTemp).app sTemp s).2.room = _
    rw [app_room]
    rfl
  · show (((d.del sTemp).app sTemp s).2.del sTemp).room = _
    show ((d.del sTemp).app sTemp s).2.room = _
    rw [app_room]
    rfl
end Go.Proofs.YthebmbhdlkldiaaGreatDoor.Dsk

namespace Go.Proofs.YthebmbhdlkldiaaGreatDoor.Dsk
open Go.RowKit Go.Bl
attribute [local go_sem ↓] Go.wp_at_zero Go.wp_at_succ

def boolc (b : Bool) : List Value := [.bool b]
theorem sizeEntryK (w : World) : (sizeOf 50).run Tryz.prog w = .ok 7 w := by kernel_rfl
theorem mused_pd {w0 w : World} {nD nM p m : Nat} {d : Dk} (h : PD w0 w nD nM p m d d) : Calls Tryz.prog 29 #[.pointer (some ⟨m, 0, none⟩)] w fun x w' => x = .returned (.int .i64 d.used) ∧ w = w' := by
  have hok := h.ok.1
  obtain ⟨F, Fm, h1, ⟨S, hM, hs⟩, _⟩ := h.ex
  have hp := hs.perm.length_eq
  have ht := hs.used
  have h3 := hok.len
  have h4 := hok.used
  have h5 := hok.room2
  have hd : d.used = (total d.L : Int) := rfl
  have := mused_any w m d.room S Fm hM (by omega) (by omega)
  rw [ht] at this
  exact this
set_option maxRecDepth 10000 in
set_option maxHeartbeats 8000000 in
theorem keeps_any (w : World) (hT : Tabs w) (room : Int) (hroom : i64 room) (v : Value) (l : List Ent) (h : EntsOk w (fun b => b < w.heap.size) v l) (vs : Value) (sv : List Bool) (hS : Sl w (fun b => b < w.heap.size) 1 boolc vs sv)
    (vk : Value) (keep : List Int) (hK : Sl w (fun b => b < w.heap.size) 1 intc vk keep) :
    Calls Tryz.prog 6 #[.int .i64 room, v, vs, vk] w fun x w' => x = .returned (.bool true) ∧ Below w.heap.size w w' := by
  obtain ⟨A, c, rfl, hA1, hA2⟩ := h.1.shape
  obtain ⟨As, cs, rfl, hA3, hA4⟩ := hS.shape
  obtain ⟨Ak, ck, rfl, hA5, hA6⟩ := hK.shape
  unfold maxLen at hA2 hA4 hA6
  have h2 : 2 ≤ w.heap.size := hT.lt
  have HTb := Lib.hid hT
  have HA := Lib.hid h
  have HSV := Lib.hid hS
  have HKP := Lib.hid hK
  have HR := Lib.hid hroom
  clear hT h hS hK hroom
  go_enter Tryz.func6, Tryz.ntmps6
  go_wp2_with fail
  refine (shown_any w HTb.out).mono ?_
  rintro e wa ⟨rfl, hBa⟩
  have HBa := Lib.hid hBa
  clear hBa
  go_wp2_with fail
  refine (fits_all wa _ _ l (HA.out.fresh HBa.out)).mono ?_
  rintro x wb ⟨rfl, hBb⟩
  have HBb := Lib.hid (HBa.out.trans (hBb.mono HBa.out.size))
  clear hBb
  obtain ⟨f, hf⟩ : ∃ f, fitsB l = f := ⟨_, rfl⟩
  rw [hf]
  have HFB := Lib.hid hf
  clear hf
  obtain ⟨r1, r2⟩ := pickOf_range room (n := 3000) (by decide)
  obtain ⟨R, hRR⟩ : ∃ R : Int, pickOf room 3000 = R := ⟨_, rfl⟩
  have HPK := fun wx => pick_any wx room 3000 HR.out (by decide)
  rw [hRR] at HPK r1 r2
  have HPK := Lib.hid HPK
  clear hRR
  go_wp2_with fail
  refine (HPK.out wb).mono ?_
  rintro e wz ⟨rfl, rfl⟩
  go_wp2_with fail
  refine (new_ok wb (1 + R) (by omega) (by omega)).mono ?_
  rintro e wc ⟨rfl, hD, hBc⟩
  obtain ⟨p, hp⟩ : ∃ p, wb.heap.size + 1 = p := ⟨_, rfl⟩
  rw [hp] at hD ⊢
  rw [show ptr p = Value.pointer (some ⟨p, 0, none⟩) from rfl]
  have HD := Lib.hid hD
  have HBc := Lib.hid hBc
  clear hD hBc hp
  go_wp2_with fail
  refine (HPK.out wc).mono ?_
  rintro e wz ⟨rfl, rfl⟩
  go_wp2_with fail
  refine (mnew_ok wc (1 + R) (by omega) (by omega)).mono ?_
  rintro e wd ⟨m, rfl, hM, hBd⟩
  have hPD : PD w wd wd.heap.size wd.heap.size p m ⟨1 + R, []⟩ ⟨1 + R, []⟩ := by
    have z1 := HBb.out.size
    have z2 := HBc.out.size
    have z3 := hBd.size
    exact ⟨⟨_, _, HD.out.fresh hBd, ⟨[], hM, List.Perm.refl _, List.Pairwise.nil⟩, fun k hk hx => by omega, fun k hk => by omega, fun k hk => by omega⟩, (HBb.out.trans (HBc.out.mono z1)).trans (hBd.mono (by omega)), Nat.le_refl _, Nat.le_refl _⟩
  have HPD0 := Lib.hid hPD
  clear hM hBd hPD HBc HD HPK
  obtain ⟨D0, hD0⟩ : ∃ D0 : Dk, (⟨1 + R, []⟩ : Dk) = D0 := ⟨_, rfl⟩
  have HDI0 : Hid (DI D0 none) := Lib.hid (by rw [← hD0]; exact DI.new _)
  rw [hD0] at HPD0
  clear hD0 HBa HBb
  cases f
  · go_wp2_with fail
    go_ret
    exact ⟨rfl, HPD0.out.bel⟩
  by_cases hk20 : keep.length ≤ 20
  case neg =>
    have hk20 : 20 < keep.length := by omega
    go_wp2_with fail
    go_ret
    exact ⟨rfl, HPD0.out.bel⟩
  by_cases hs60 : sv.length ≤ 60
  case neg =>
    have hs60 : 60 < sv.length := by omega
    go_wp2_with fail
    go_ret
    exact ⟨rfl, HPD0.out.bel⟩
  have hl40 := (fitsB_at HFB.out).1
  go_wp2_with fail
  go_loopw [15, 16, 17, 18, 19, 20, 21] (fun now i _ _ _ _ _ wr => ∃ (k : Nat) (d : Dk) (nD nM : Nat) (o : Option St) (S0 : ByteArray), k ≤ l.length ∧ k ≤ sv.length ∧ i = .int .i64 k ∧ now = .string S0 ∧ nowB o = S0 ∧ PD w wr nD nM p m d d ∧ DI d o ∧ (∀ s, o = some s → SOk s 40)) (fun _ i _ _ _ _ _ _ => l.length - (RowKit.intOf i).toNat)
  case atStart => exact ⟨0, D0, _, _, none, ⟨#[]⟩, Nat.zero_le _, Nat.zero_le _, rfl, rfl, rfl, HPD0.out, HDI0.out, fun s hs => by cases hs⟩
  case round =>
    obtain ⟨k, d, nD, nM, o, S0, hk1, hk2, rfl, rfl, hS0, hPD, hDI, hSS⟩ := hrel
    have HPD := Lib.hid hPD
    have HDI := Lib.hid hDI
    have HSS := Lib.hid hSS
    have HSE := Lib.hid hS0
    clear hPD hDI hSS hS0 HPD0 HDI0
    by_cases hlt : k < l.length
    case neg =>
      go_wp2_with fail
      go_ret
      exact ⟨rfl, HPD.out.bel⟩
    by_cases hls : k < sv.length
    case neg =>
      go_wp2_with fail
      go_ret
      exact ⟨rfl, HPD.out.bel⟩
    have hcut : ∀ w, (Instr.slice 22 (.slice A l.length c) none (some (.int .i64 ((k : Int) + 1))) none).run Tryz.prog w = .ok (.slice (cutA A c 0 7) (k + 1) c) w := fun w => by
      have h := run_cut_high (P := Tryz.prog) Tryz.underlying22 sizeEntryK A l.length c ((k : Int) + 1) (by omega) (by omega) w
      rw [show ((k : Int) + 1).toNat = k + 1 by omega] at h
      exact h
    have hAb := HA.out.fresh HPD.out.bel
    have htk := hAb.1.take_ (i := k + 1) (by omega)
    have hlt1 : (l.take (k + 1)).length = k + 1 := by rw [List.length_take]; omega
    have HC := Lib.hid (made_any wr (HTb.out.fresh HPD.out.bel) (fun b => b < w.heap.size) _ (l.take (k + 1)) ⟨htk, fun a ha => hAb.2 a (List.mem_of_mem_take ha)⟩ (fun a ha => (fitsB_at HFB.out).2 a (List.mem_of_mem_take ha)) (by omega))
    have HTL := Lib.hid hlt1
    clear hAb htk hlt1
    go_wp2_with fail
    refine HC.out.mono ?_
    rintro e wm ⟨ps, ms, F, W, M, rfl, hMd, hso⟩
    obtain ⟨s, hs⟩ : ∃ s, madeS (l.take (k + 1)) = s := ⟨_, rfl⟩
    rw [hs] at hMd hso
    rw [HTL.out] at hso
    have HSO := Lib.hid (hso.more (j := 40) (by omega))
    have HMD := Lib.hid hMd
    have HFM := Lib.hid HPD.out
    have HPD := Lib.hid (HPD.out.fresh hMd.bel)
    clear hcut hs hMd hso HC HTL
    obtain ⟨b, ob, rfl, _, _, hxx⟩ := (HSV.out.fresh HPD.out.bel).cell_ hls
    have x0 := hxx 0 _ rfl
    simp only [Nat.mul_one, Nat.add_zero] at x0
    clear hxx
    cases hsk : sv[k]
    · rw [hsk] at x0
      clear hsk
      go_wp2_with fail
      cases o with
      | none =>
        obtain ⟨X1, hQ1, hI1, hX1⟩ := HPD.out.sys (HTb.out.fresh HPD.out.bel) h2
        have HX1 := Lib.hid hX1
        have HC := Lib.hid (appendQ hQ1 ⟨#[116, 101, 109, 112]⟩ ⟨#[116]⟩ (by decide) (by decide))
        obtain ⟨er1, her1⟩ : ∃ v : Int, (d.app ⟨#[116, 101, 109, 112]⟩ ⟨#[116]⟩).1 = v := ⟨_, rfl⟩
        obtain ⟨d3, hd3⟩ : ∃ v : Dk, (d.app ⟨#[116, 101, 109, 112]⟩ ⟨#[116]⟩).2 = v := ⟨_, rfl⟩
        rw [her1, hd3] at HC
        have HD3 : Hid (DI d3 none) := Lib.hid (by rw [← hd3]; exact HDI.out.app sT)
        have HE1 := Lib.hid her1
        have HE3 := Lib.hid hd3
        have hlen2 := HDI.out.len HPD.out.ok.2.2
        have hroom := HPD.out.ok.1.room2
        have hused := HPD.out.ok.1.used
        have HL2 : Hid (d.L.length ≤ 1000) := Lib.hid (by omega)
        have HU2 : Hid (d.used ≤ 1000000000000) := Lib.hid (by show (total d.L : Int) ≤ _; omega)
        clear hQ1 hI1 hX1 her1 hd3 hlen2 hroom hused
        go_wp2_with fail
        refine HC.out.mono ?_
        rintro e wq1 ⟨rfl, hQ2, hK2⟩
        have HPD := Lib.hid (HX1.out _ _ hQ2 hK2)
        clear hQ2 hK2 HC HX1
        obtain ⟨X2, hR1, hI2, hX2⟩ := HPD.out.doc
        have HX2 := Lib.hid hX2
        have hc := appendR hR1 HL2.out HU2.out ⟨#[116, 101, 109, 112]⟩ ⟨#[116]⟩ (by decide) (by decide)
        rw [HE1.out, HE3.out] at hc
        have HC := Lib.hid hc
        clear hR1 hI2 hX2 hc HL2 HU2
        go_wp2_with fail
        refine HC.out.mono ?_
        rintro e wq2 ⟨rfl, hR2, hK2⟩
        have HPD := Lib.hid (HX2.out _ _ hR2 hK2)
        clear hR2 hK2 HC HX2
        obtain ⟨X1, hQ1, hI1, hX1⟩ := HPD.out.sys (HTb.out.fresh HPD.out.bel) h2
        have HX1 := Lib.hid hX1
        have hBq := HPD.out.bel
        have HC := Lib.hid (crashQ hQ1 _ keep ((HKP.out.fresh hBq).mono (fun k hk hlt => hI1 k hk (.inl hlt))))
        clear hQ1 hI1 hX1 hBq
        go_wp2_with fail
        refine HC.out.mono ?_
        rintro e wq3 ⟨rfl, ks, hN1, hQ2, hK2⟩
        have HN1 := Lib.hid hN1
        have hlen3 := HD3.out.len HPD.out.ok.2.2
        have hsyn : ∀ f ∈ d3.L, 0 ≤ f.syn ∧ f.syn ≤ f.bytes.size ∧ f.bytes.size ≤ 1073741824 := fun f hf => by
          have h1 := HPD.out.ok.1.syn f hf
          have h2 := total_mem hf
          have h3 := HPD.out.ok.1.used
          have h4 := HPD.out.ok.1.room2
          exact ⟨h1.1, h1.2, by omega⟩
        have hnd3 := HPD.out.ok.2.2
        have HPD := Lib.hid (HX1.out _ _ hQ2 hK2)
        clear hQ2 hK2 HC HX1 hN1
        obtain ⟨X2, hR1, hI2, hX2⟩ := HPD.out.doc
        have HX2 := Lib.hid hX2
        have hBq := HPD.out.bel
        have HC := Lib.hid (crashR hR1 (by omega) hsyn _ keep ((HKP.out.fresh hBq).mono (fun k hk hlt => hI2 k hk (.inl hlt))))
        have HD4 := Lib.hid (HD3.out.crash hnd3 keep ks ks.length)
        clear hR1 hI2 hX2 hsyn hnd3 hlen3 hBq
        go_wp2_with fail
        refine HC.out.mono ?_
        rintro e wq4 ⟨rfl, ks', hN2, hR2, hK2⟩
        obtain rfl : ks = ks' := HN1.out.uniq hN2
        have HPD := Lib.hid (HX2.out _ _ hR2 hK2)
        obtain ⟨d4, hd4⟩ : ∃ v : Dk, (⟨d3.room, crashN keep ks d3.L ks.length⟩ : Dk) = v := ⟨_, rfl⟩
        rw [hd4] at HPD HD4
        clear hR2 hK2 HC HX2 hN2 hd4
        obtain ⟨X1, hQ1, hI1, hX1⟩ := HPD.out.sys (HTb.out.fresh HPD.out.bel) h2
        have HQ := Lib.hid hQ1
        clear hI1 hX1 hQ1
        have hsb := strEq_true (show S0 = (⟨#[]⟩ : ByteArray) from HSE.out.symm)
        have hsl : S0.toList = [] := by simpa using hsb
        have HC := Lib.hid (load_none HQ.out (HD4.out.no rfl))
        go_wp2_with fail
        refine HC.out.mono ?_
        rintro e wq5 ⟨rfl, hB5⟩
        have HPD5 := Lib.hid (HPD.out.fresh hB5)
        have HQ5 := Lib.hid (HQ.out.fresh hB5)
        clear hB5 HC
        go_wp2_with fail
        refine (usedQ HQ5.out).mono ?_
        rintro e wz ⟨rfl, rfl⟩
        go_wp2_with fail
        refine (mused_pd HPD5.out).mono ?_
        rintro e wz ⟨rfl, rfl⟩
        go_wp2_with fail
        go_roundw
        case rel => exact ⟨k + 1, d4, _, _, none, S0, by omega, by omega, by go_num, rfl, HSE.out, HPD5.out, HD4.out, fun s hs => by cases hs⟩
        case measure => simp [Go.RowKit.intOf]; omega
      | some s0 =>
        have HS0 := Lib.hid (HSS.out s0 rfl)
        obtain ⟨X1, hQ1, hI1, hX1⟩ := HPD.out.sys (HTb.out.fresh HPD.out.bel) h2
        have HX1 := Lib.hid hX1
        have HC := Lib.hid (appendQ hQ1 ⟨#[116, 101, 109, 112]⟩ ⟨#[116]⟩ (by decide) (by decide))
        obtain ⟨er1, her1⟩ : ∃ v : Int, (d.app ⟨#[116, 101, 109, 112]⟩ ⟨#[116]⟩).1 = v := ⟨_, rfl⟩
        obtain ⟨d3, hd3⟩ : ∃ v : Dk, (d.app ⟨#[116, 101, 109, 112]⟩ ⟨#[116]⟩).2 = v := ⟨_, rfl⟩
        rw [her1, hd3] at HC
        have HD3 : Hid (DI d3 (some s0)) := Lib.hid (by rw [← hd3]; exact HDI.out.app sT)
        have HE1 := Lib.hid her1
        have HE3 := Lib.hid hd3
        have hlen2 := HDI.out.len HPD.out.ok.2.2
        have hroom := HPD.out.ok.1.room2
        have hused := HPD.out.ok.1.used
        have HL2 : Hid (d.L.length ≤ 1000) := Lib.hid (by omega)
        have HU2 : Hid (d.used ≤ 1000000000000) := Lib.hid (by show (total d.L : Int) ≤ _; omega)
        clear hQ1 hI1 hX1 her1 hd3 hlen2 hroom hused
        go_wp2_with fail
        refine HC.out.mono ?_
        rintro e wq1 ⟨rfl, hQ2, hK2⟩
        have HPD := Lib.hid (HX1.out _ _ hQ2 hK2)
        clear hQ2 hK2 HC HX1
        obtain ⟨X2, hR1, hI2, hX2⟩ := HPD.out.doc
        have HX2 := Lib.hid hX2
        have hc := appendR hR1 HL2.out HU2.out ⟨#[116, 101, 109, 112]⟩ ⟨#[116]⟩ (by decide) (by decide)
        rw [HE1.out, HE3.out] at hc
        have HC := Lib.hid hc
        clear hR1 hI2 hX2 hc HL2 HU2
        go_wp2_with fail
        refine HC.out.mono ?_
        rintro e wq2 ⟨rfl, hR2, hK2⟩
        have HPD := Lib.hid (HX2.out _ _ hR2 hK2)
        clear hR2 hK2 HC HX2
        obtain ⟨X1, hQ1, hI1, hX1⟩ := HPD.out.sys (HTb.out.fresh HPD.out.bel) h2
        have HX1 := Lib.hid hX1
        have hBq := HPD.out.bel
        have HC := Lib.hid (crashQ hQ1 _ keep ((HKP.out.fresh hBq).mono (fun k hk hlt => hI1 k hk (.inl hlt))))
        clear hQ1 hI1 hX1 hBq
        go_wp2_with fail
        refine HC.out.mono ?_
        rintro e wq3 ⟨rfl, ks, hN1, hQ2, hK2⟩
        have HN1 := Lib.hid hN1
        have hlen3 := HD3.out.len HPD.out.ok.2.2
        have hsyn : ∀ f ∈ d3.L, 0 ≤ f.syn ∧ f.syn ≤ f.bytes.size ∧ f.bytes.size ≤ 1073741824 := fun f hf => by
          have h1 := HPD.out.ok.1.syn f hf
          have h2 := total_mem hf
          have h3 := HPD.out.ok.1.used
          have h4 := HPD.out.ok.1.room2
          exact ⟨h1.1, h1.2, by omega⟩
        have hnd3 := HPD.out.ok.2.2
        have HPD := Lib.hid (HX1.out _ _ hQ2 hK2)
        clear hQ2 hK2 HC HX1 hN1
        obtain ⟨X2, hR1, hI2, hX2⟩ := HPD.out.doc
        have HX2 := Lib.hid hX2
        have hBq := HPD.out.bel
        have HC := Lib.hid (crashR hR1 (by omega) hsyn _ keep ((HKP.out.fresh hBq).mono (fun k hk hlt => hI2 k hk (.inl hlt))))
        have HD4 := Lib.hid (HD3.out.crash hnd3 keep ks ks.length)
        clear hR1 hI2 hX2 hsyn hnd3 hlen3 hBq
        go_wp2_with fail
        refine HC.out.mono ?_
        rintro e wq4 ⟨rfl, ks', hN2, hR2, hK2⟩
        obtain rfl : ks = ks' := HN1.out.uniq hN2
        have HPD := Lib.hid (HX2.out _ _ hR2 hK2)
        obtain ⟨d4, hd4⟩ : ∃ v : Dk, (⟨d3.room, crashN keep ks d3.L ks.length⟩ : Dk) = v := ⟨_, rfl⟩
        rw [hd4] at HPD HD4
        clear hR2 hK2 HC HX2 hN2 hd4
        obtain ⟨X1, hQ1, hI1, hX1⟩ := HPD.out.sys (HTb.out.fresh HPD.out.bel) h2
        have HQ := Lib.hid hQ1
        clear hI1 hX1 hQ1
        have hsm := (HS0.out).rch.small (by have := (HS0.out).lL; omega) (by have := (HS0.out).lT; omega)
        have HC := Lib.hid (load_some HQ.out (HD4.out.yes _ rfl) hsm rfl)
        have hsb := strEq_false (show ¬ S0 = ⟨#[]⟩ from fun e => by
          have h1 := congrArg ByteArray.size (HSE.out.trans e)
          change (Bl (snpB (ptOf s0))).size = 0 at h1
          rw [Bl_size, snpB_len] at h1
          omega)
        have hsb2 := strEq_true (rfl : S0 = S0)
        have hsl : ¬ S0.toList = [] := by simpa using hsb
        have hse : S0.toList.isEmpty = false := by simpa using hsl
        clear hsm
        go_wp2_with fail
        refine HC.out.mono ?_
        rintro e wq5 ⟨q, F5, W5, rfl, hS5, hF5, hB5⟩
        have HPD5 := Lib.hid (HPD.out.fresh hB5)
        have HQ5 := Lib.hid (HQ.out.fresh hB5)
        have HST5 := Lib.hid (eqv_at hS5 (HS0.out).rch.eqv (HS0.out).rch.okL)
        have HU := snapPut_any wq5 (HTb.out.fresh HPD5.out.bel) q s0 F5 W5 HST5.out (HS0.out).rch (by have := (HS0.out).lL; omega) (by have := (HS0.out).lT; omega) (fun o ho => Nat.le_trans ((HS0.out).str o ho) (by decide))
        rw [show Bl (snpB (ptOf s0)) = S0 from HSE.out] at HU
        have HU := Lib.hid HU
        clear hB5 HC hS5 hF5
        go_wp2_with fail
        refine (usedQ HQ5.out).mono ?_
        rintro e wz ⟨rfl, rfl⟩
        go_wp2_with fail
        refine (mused_pd HPD5.out).mono ?_
        rintro e wz ⟨rfl, rfl⟩
        go_wp2_with fail
        refine HU.out.mono ?_
        rintro e wq6 ⟨rfl, hB6⟩
        have HPD6 := Lib.hid (HPD5.out.fresh hB6)
        clear hB6 HU
        go_wp2_with fail
        go_roundw
        case rel => exact ⟨k + 1, d4, _, _, some s0, S0, by omega, by omega, by go_num, rfl, HSE.out, HPD6.out, HD4.out, fun s' hs => by cases hs; exact HS0.out⟩
        case measure => simp [Go.RowKit.intOf]; omega
    · rw [hsk] at x0
      clear hsk
      obtain ⟨X1, hQ1, hI1, hX1⟩ := HPD.out.sys (HTb.out.fresh HPD.out.bel) h2
      have HX1 := Lib.hid hX1
      have HI1 := Lib.hid hI1
      have HFX : Hid (∀ j, F j → X1 j) := Lib.hid (fun j hj => hI1 j (HMD.out.st.lt j hj) (.inr (Nat.le_trans HFM.out.nd (HMD.out.fl j hj))))
      have HMX : Hid (∀ j, M j → X1 j) := Lib.hid (fun j hj => hI1 j (HMD.out.mt.lt j hj) (.inr (Nat.le_trans HFM.out.nd (HMD.out.ml j hj))))
      obtain ⟨tx, htx⟩ : ∃ tx, nowB (some s) = tx := ⟨_, rfl⟩
      have HTX := Lib.hid htx
      have HC := Lib.hid (saveQ hQ1 ps s F W HMD.out.st HFX.out HSO.out.rch (by have := HSO.out.lL; omega) (by have := HSO.out.lT; omega) (fun o ho => Nat.le_trans (HSO.out.str o ho) (by decide)) tx htx)
      obtain ⟨er, her⟩ : ∃ er : Int, (d.wr sSnap tx).1 = er := ⟨_, rfl⟩
      obtain ⟨d', hd'⟩ : ∃ d' : Dk, (d.wr sSnap tx).2 = d' := ⟨_, rfl⟩
      have hlen := HDI.out.len HPD.out.ok.2.2
      have hroom := HPD.out.ok.1.room2
      have hused := HPD.out.ok.1.used
      have HL2 : Hid (d.L.length ≤ 100) := Lib.hid (by omega)
      have HU2 : Hid (d.used ≤ 1000000000000) := Lib.hid (by show (total d.L : Int) ≤ _; omega)
      have HWR : Hid ((er = 0 ∧ DI d' (some s)) ∨ (er = 8 ∧ DI d' o)) := Lib.hid (by
        have := HDI.out.wr HPD.out.ok.2.2 s
        rw [htx, her, hd'] at this
        exact this)
      rw [her, hd'] at HC
      have HER := Lib.hid her
      have HDD := Lib.hid hd'
      clear hQ1 hI1 hX1 htx hlen hroom hused her hd'
      go_wp2_with fail
      refine HC.out.mono ?_
      rintro e w1 ⟨rfl, hQ2, hK2⟩
      have HPD := Lib.hid (HX1.out _ _ hQ2 hK2)
      have HK1 := Lib.hid hK2
      have HST1 := Lib.hid (HMD.out.st.keep hK2 (fun j hj h => h (HFX.out j hj)))
      have HMT1 := Lib.hid (HMD.out.mt.keep hK2 (fun j hj h => h (HMX.out j hj)))
      have HC := Lib.hid (mparts_any w1 ms s M HMT1.out (by have := HSO.out.lL; omega) (by have := HSO.out.lT; omega) (fun o ho => Nat.le_trans (HSO.out.str o ho) (by decide)) HMD.out.st.okL)
      clear hQ2 hK2 HX1
      go_wp2_with fail
      refine HC.out.mono ?_
      rintro e w2 ⟨pv, rv, rfl, hPt, hB2⟩
      have HST2 := Lib.hid (HST1.out.fresh hB2)
      have HPD1 := Lib.hid HPD.out
      have HPD := Lib.hid (HPD.out.fresh hB2)
      obtain ⟨X2, hR1, hI2, hX2⟩ := HPD.out.doc
      have HX2 := Lib.hid hX2
      have hc := writeR hR1 HL2.out HU2.out (fun b => w1.heap.size ≤ b) (ptOf s) pv rv hPt (fun j hj h => hI2 j hj (.inr (Nat.le_trans HPD1.out.nm h))) (HSO.out.rch.small (by have := HSO.out.lL; omega) (by have := HSO.out.lT; omega)) tx HTX.out
      rw [HER.out, HDD.out] at hc
      have HC := Lib.hid hc
      have HFX2 : Hid (∀ j, F j → X2 j) := Lib.hid (fun j hj => hI2 j (HST2.out.lt j hj) (.inr (Nat.le_trans HFM.out.nm (HMD.out.fl j hj))))
      clear hR1 hI2 hX2 hc hPt hB2 HL2 HU2
      go_wp2_with fail
      refine HC.out.mono ?_
      rintro e w3 ⟨rfl, hR2, hK3⟩
      have HPD := Lib.hid (HX2.out _ _ hR2 hK3)
      have HST3 := Lib.hid (HST2.out.keep hK3 (fun j hj h => h (HFX2.out j hj)))
      clear hR2 hK3 HC HX2 HFX HMX HFX2 HST1 HMT1 HST2 HMD HFM HPD1 HK1 HI1
      rcases HWR.out with ⟨rfl, hDI⟩ | ⟨rfl, hDI⟩
      · have HDI := Lib.hid hDI
        have HSE : Hid (nowB (some s) = tx) := Lib.hid HTX.out
        have hc := snapPut_any w3 (HTb.out.fresh HPD.out.bel) ps s F W HST3.out HSO.out.rch (by have := HSO.out.lL; omega) (by have := HSO.out.lT; omega) (fun o ho => Nat.le_trans (HSO.out.str o ho) (by decide))
        rw [show Bl (snpB (ptOf s)) = tx from HTX.out] at hc
        have HC := Lib.hid hc
        clear hDI HWR hc
        go_wp2_with fail
        refine HC.out.mono ?_
        rintro e w4 ⟨rfl, hB4⟩
        have HPD := Lib.hid (HPD.out.fresh hB4)
        clear hB4 HC
        go_wp2_with fail
        obtain ⟨X1, hQ1, hI1, hX1⟩ := HPD.out.sys (HTb.out.fresh HPD.out.bel) h2
        have HX1 := Lib.hid hX1
        have HC := Lib.hid (appendQ hQ1 ⟨#[116, 101, 109, 112]⟩ ⟨#[116]⟩ (by decide) (by decide))
        obtain ⟨er1, her1⟩ : ∃ v : Int, (d'.app ⟨#[116, 101, 109, 112]⟩ ⟨#[116]⟩).1 = v := ⟨_, rfl⟩
        obtain ⟨d3, hd3⟩ : ∃ v : Dk, (d'.app ⟨#[116, 101, 109, 112]⟩ ⟨#[116]⟩).2 = v := ⟨_, rfl⟩
        rw [her1, hd3] at HC
        have HD3 : Hid (DI d3 (some s)) := Lib.hid (by rw [← hd3]; exact HDI.out.app sT)
        have HE1 := Lib.hid her1
        have HE3 := Lib.hid hd3
        have hlen2 := HDI.out.len HPD.out.ok.2.2
        have hroom := HPD.out.ok.1.room2
        have hused := HPD.out.ok.1.used
        have HL2 : Hid (d'.L.length ≤ 1000) := Lib.hid (by omega)
        have HU2 : Hid (d'.used ≤ 1000000000000) := Lib.hid (by show (total d'.L : Int) ≤ _; omega)
        clear hQ1 hI1 hX1 her1 hd3 hlen2 hroom hused
        go_wp2_with fail
        refine HC.out.mono ?_
        rintro e wq1 ⟨rfl, hQ2, hK2⟩
        have HPD := Lib.hid (HX1.out _ _ hQ2 hK2)
        clear hQ2 hK2 HC HX1
        obtain ⟨X2, hR1, hI2, hX2⟩ := HPD.out.doc
        have HX2 := Lib.hid hX2
        have hc := appendR hR1 HL2.out HU2.out ⟨#[116, 101, 109, 112]⟩ ⟨#[116]⟩ (by decide) (by decide)
        rw [HE1.out, HE3.out] at hc
        have HC := Lib.hid hc
        clear hR1 hI2 hX2 hc HL2 HU2
        go_wp2_with fail
        refine HC.out.mono ?_
        rintro e wq2 ⟨rfl, hR2, hK2⟩
        have HPD := Lib.hid (HX2.out _ _ hR2 hK2)
        clear hR2 hK2 HC HX2
        obtain ⟨X1, hQ1, hI1, hX1⟩ := HPD.out.sys (HTb.out.fresh HPD.out.bel) h2
        have HX1 := Lib.hid hX1
        have hBq := HPD.out.bel
        have HC := Lib.hid (crashQ hQ1 _ keep ((HKP.out.fresh hBq).mono (fun k hk hlt => hI1 k hk (.inl hlt))))
        clear hQ1 hI1 hX1 hBq
        go_wp2_with fail
        refine HC.out.mono ?_
        rintro e wq3 ⟨rfl, ks, hN1, hQ2, hK2⟩
        have HN1 := Lib.hid hN1
        have hlen3 := HD3.out.len HPD.out.ok.2.2
        have hsyn : ∀ f ∈ d3.L, 0 ≤ f.syn ∧ f.syn ≤ f.bytes.size ∧ f.bytes.size ≤ 1073741824 := fun f hf => by
          have h1 := HPD.out.ok.1.syn f hf
          have h2 := total_mem hf
          have h3 := HPD.out.ok.1.used
          have h4 := HPD.out.ok.1.room2
          exact ⟨h1.1, h1.2, by omega⟩
        have hnd3 := HPD.out.ok.2.2
        have HPD := Lib.hid (HX1.out _ _ hQ2 hK2)
        clear hQ2 hK2 HC HX1 hN1
        obtain ⟨X2, hR1, hI2, hX2⟩ := HPD.out.doc
        have HX2 := Lib.hid hX2
        have hBq := HPD.out.bel
        have HC := Lib.hid (crashR hR1 (by omega) hsyn _ keep ((HKP.out.fresh hBq).mono (fun k hk hlt => hI2 k hk (.inl hlt))))
        have HD4 := Lib.hid (HD3.out.crash hnd3 keep ks ks.length)
        clear hR1 hI2 hX2 hsyn hnd3 hlen3 hBq
        go_wp2_with fail
        refine HC.out.mono ?_
        rintro e wq4 ⟨rfl, ks', hN2, hR2, hK2⟩
        obtain rfl : ks = ks' := HN1.out.uniq hN2
        have HPD := Lib.hid (HX2.out _ _ hR2 hK2)
        obtain ⟨d4, hd4⟩ : ∃ v : Dk, (⟨d3.room, crashN keep ks d3.L ks.length⟩ : Dk) = v := ⟨_, rfl⟩
        rw [hd4] at HPD HD4
        clear hR2 hK2 HC HX2 hN2 hd4
        obtain ⟨X1, hQ1, hI1, hX1⟩ := HPD.out.sys (HTb.out.fresh HPD.out.bel) h2
        have HQ := Lib.hid hQ1
        clear hI1 hX1 hQ1
        have hsm := (HSO.out).rch.small (by have := (HSO.out).lL; omega) (by have := (HSO.out).lT; omega)
        have HC := Lib.hid (load_some HQ.out (HD4.out.yes _ rfl) hsm rfl)
        have hsb := strEq_false (show ¬ tx = ⟨#[]⟩ from fun e => by
          have h1 := congrArg ByteArray.size (HSE.out.trans e)
          change (Bl (snpB (ptOf s))).size = 0 at h1
          rw [Bl_size, snpB_len] at h1
          omega)
        have hsb2 := strEq_true (rfl : tx = tx)
        have hsl : ¬ tx.toList = [] := by simpa using hsb
        have hse : tx.toList.isEmpty = false := by simpa using hsl
        clear hsm
        go_wp2_with fail
        refine HC.out.mono ?_
        rintro e wq5 ⟨q, F5, W5, rfl, hS5, hF5, hB5⟩
        have HPD5 := Lib.hid (HPD.out.fresh hB5)
        have HQ5 := Lib.hid (HQ.out.fresh hB5)
        have HST5 := Lib.hid (eqv_at hS5 (HSO.out).rch.eqv (HSO.out).rch.okL)
        have HU := snapPut_any wq5 (HTb.out.fresh HPD5.out.bel) q s F5 W5 HST5.out (HSO.out).rch (by have := (HSO.out).lL; omega) (by have := (HSO.out).lT; omega) (fun o ho => Nat.le_trans ((HSO.out).str o ho) (by decide))
        rw [show Bl (snpB (ptOf s)) = tx from HSE.out] at HU
        have HU := Lib.hid HU
        clear hB5 HC hS5 hF5
        go_wp2_with fail
        refine (usedQ HQ5.out).mono ?_
        rintro e wz ⟨rfl, rfl⟩
        go_wp2_with fail
        refine (mused_pd HPD5.out).mono ?_
        rintro e wz ⟨rfl, rfl⟩
        go_wp2_with fail
        refine HU.out.mono ?_
        rintro e wq6 ⟨rfl, hB6⟩
        have HPD6 := Lib.hid (HPD5.out.fresh hB6)
        clear hB6 HU
        go_wp2_with fail
        go_roundw
        case rel => exact ⟨k + 1, d4, _, _, some s, tx, by omega, by omega, by go_num, rfl, HSE.out, HPD6.out, HD4.out, fun s' hs => by cases hs; exact HSO.out⟩
        case measure => simp [Go.RowKit.intOf]; omega
      · have HDI := Lib.hid hDI
        clear hDI HWR
        go_wp2_with fail
        cases o with
        | none =>
          obtain ⟨X1, hQ1, hI1, hX1⟩ := HPD.out.sys (HTb.out.fresh HPD.out.bel) h2
          have HX1 := Lib.hid hX1
          have HC := Lib.hid (appendQ hQ1 ⟨#[116, 101, 109, 112]⟩ ⟨#[116]⟩ (by decide) (by decide))
          obtain ⟨er1, her1⟩ : ∃ v : Int, (d'.app ⟨#[116, 101, 109, 112]⟩ ⟨#[116]⟩).1 = v := ⟨_, rfl⟩
          obtain ⟨d3, hd3⟩ : ∃ v : Dk, (d'.app ⟨#[116, 101, 109, 112]⟩ ⟨#[116]⟩).2 = v := ⟨_, rfl⟩
          rw [her1, hd3] at HC
          have HD3 : Hid (DI d3 none) := Lib.hid (by rw [← hd3]; exact HDI.out.app sT)
          have HE1 := Lib.hid her1
          have HE3 := Lib.hid hd3
          have hlen2 := HDI.out.len HPD.out.ok.2.2
          have hroom := HPD.out.ok.1.room2
          have hused := HPD.out.ok.1.used
          have HL2 : Hid (d'.L.length ≤ 1000) := Lib.hid (by omega)
          have HU2 : Hid (d'.used ≤ 1000000000000) := Lib.hid (by show (total d'.L : Int) ≤ _; omega)
          clear hQ1 hI1 hX1 her1 hd3 hlen2 hroom hused
          go_wp2_with fail
          refine HC.out.mono ?_
          rintro e wq1 ⟨rfl, hQ2, hK2⟩
          have HPD := Lib.hid (HX1.out _ _ hQ2 hK2)
          clear hQ2 hK2 HC HX1
          obtain ⟨X2, hR1, hI2, hX2⟩ := HPD.out.doc
          have HX2 := Lib.hid hX2
          have hc := appendR hR1 HL2.out HU2.out ⟨#[116, 101, 109, 112]⟩ ⟨#[116]⟩ (by decide) (by decide)
          rw [HE1.out, HE3.out] at hc
          have HC := Lib.hid hc
          clear hR1 hI2 hX2 hc HL2 HU2
          go_wp2_with fail
          refine HC.out.mono ?_
          rintro e wq2 ⟨rfl, hR2, hK2⟩
          have HPD := Lib.hid (HX2.out _ _ hR2 hK2)
          clear hR2 hK2 HC HX2
          obtain ⟨X1, hQ1, hI1, hX1⟩ := HPD.out.sys (HTb.out.fresh HPD.out.bel) h2
          have HX1 := Lib.hid hX1
          have hBq := HPD.out.bel
          have HC := Lib.hid (crashQ hQ1 _ keep ((HKP.out.fresh hBq).mono (fun k hk hlt => hI1 k hk (.inl hlt))))
          clear hQ1 hI1 hX1 hBq
          go_wp2_with fail
          refine HC.out.mono ?_
          rintro e wq3 ⟨rfl, ks, hN1, hQ2, hK2⟩
          have HN1 := Lib.hid hN1
          have hlen3 := HD3.out.len HPD.out.ok.2.2
          have hsyn : ∀ f ∈ d3.L, 0 ≤ f.syn ∧ f.syn ≤ f.bytes.size ∧ f.bytes.size ≤ 1073741824 := fun f hf => by
            have h1 := HPD.out.ok.1.syn f hf
            have h2 := total_mem hf
            have h3 := HPD.out.ok.1.used
            have h4 := HPD.out.ok.1.room2
            exact ⟨h1.1, h1.2, by omega⟩
          have hnd3 := HPD.out.ok.2.2
          have HPD := Lib.hid (HX1.out _ _ hQ2 hK2)
          clear hQ2 hK2 HC HX1 hN1
          obtain ⟨X2, hR1, hI2, hX2⟩ := HPD.out.doc
          have HX2 := Lib.hid hX2
          have hBq := HPD.out.bel
          have HC := Lib.hid (crashR hR1 (by omega) hsyn _ keep ((HKP.out.fresh hBq).mono (fun k hk hlt => hI2 k hk (.inl hlt))))
          have HD4 := Lib.hid (HD3.out.crash hnd3 keep ks ks.length)
          clear hR1 hI2 hX2 hsyn hnd3 hlen3 hBq
          go_wp2_with fail
          refine HC.out.mono ?_
          rintro e wq4 ⟨rfl, ks', hN2, hR2, hK2⟩
          obtain rfl : ks = ks' := HN1.out.uniq hN2
          have HPD := Lib.hid (HX2.out _ _ hR2 hK2)
          obtain ⟨d4, hd4⟩ : ∃ v : Dk, (⟨d3.room, crashN keep ks d3.L ks.length⟩ : Dk) = v := ⟨_, rfl⟩
          rw [hd4] at HPD HD4
          clear hR2 hK2 HC HX2 hN2 hd4
          obtain ⟨X1, hQ1, hI1, hX1⟩ := HPD.out.sys (HTb.out.fresh HPD.out.bel) h2
          have HQ := Lib.hid hQ1
          clear hI1 hX1 hQ1
          have hsb := strEq_true (show S0 = (⟨#[]⟩ : ByteArray) from HSE.out.symm)
          have hsl : S0.toList = [] := by simpa using hsb
          have HC := Lib.hid (load_none HQ.out (HD4.out.no rfl))
          go_wp2_with fail
          refine HC.out.mono ?_
          rintro e wq5 ⟨rfl, hB5⟩
          have HPD5 := Lib.hid (HPD.out.fresh hB5)
          have HQ5 := Lib.hid (HQ.out.fresh hB5)
          clear hB5 HC
          go_wp2_with fail
          refine (usedQ HQ5.out).mono ?_
          rintro e wz ⟨rfl, rfl⟩
          go_wp2_with fail
          refine (mused_pd HPD5.out).mono ?_
          rintro e wz ⟨rfl, rfl⟩
          go_wp2_with fail
          go_roundw
          case rel => exact ⟨k + 1, d4, _, _, none, S0, by omega, by omega, by go_num, rfl, HSE.out, HPD5.out, HD4.out, fun s hs => by cases hs⟩
          case measure => simp [Go.RowKit.intOf]; omega
        | some s0 =>
          have HS0 := Lib.hid (HSS.out s0 rfl)
          obtain ⟨X1, hQ1, hI1, hX1⟩ := HPD.out.sys (HTb.out.fresh HPD.out.bel) h2
          have HX1 := Lib.hid hX1
          have HC := Lib.hid (appendQ hQ1 ⟨#[116, 101, 109, 112]⟩ ⟨#[116]⟩ (by decide) (by decide))
          obtain ⟨er1, her1⟩ : ∃ v : Int, (d'.app ⟨#[116, 101, 109, 112]⟩ ⟨#[116]⟩).1 = v := ⟨_, rfl⟩
          obtain ⟨d3, hd3⟩ : ∃ v : Dk, (d'.app ⟨#[116, 101, 109, 112]⟩ ⟨#[116]⟩).2 = v := ⟨_, rfl⟩
          rw [her1, hd3] at HC
          have HD3 : Hid (DI d3 (some s0)) := Lib.hid (by rw [← hd3]; exact HDI.out.app sT)
          have HE1 := Lib.hid her1
          have HE3 := Lib.hid hd3
          have hlen2 := HDI.out.len HPD.out.ok.2.2
          have hroom := HPD.out.ok.1.room2
          have hused := HPD.out.ok.1.used
          have HL2 : Hid (d'.L.length ≤ 1000) := Lib.hid (by omega)
          have HU2 : Hid (d'.used ≤ 1000000000000) := Lib.hid (by show (total d'.L : Int) ≤ _; omega)
          clear hQ1 hI1 hX1 her1 hd3 hlen2 hroom hused
          go_wp2_with fail
          refine HC.out.mono ?_
          rintro e wq1 ⟨rfl, hQ2, hK2⟩
          have HPD := Lib.hid (HX1.out _ _ hQ2 hK2)
          clear hQ2 hK2 HC HX1
          obtain ⟨X2, hR1, hI2, hX2⟩ := HPD.out.doc
          have HX2 := Lib.hid hX2
          have hc := appendR hR1 HL2.out HU2.out ⟨#[116, 101, 109, 112]⟩ ⟨#[116]⟩ (by decide) (by decide)
          rw [HE1.out, HE3.out] at hc
          have HC := Lib.hid hc
          clear hR1 hI2 hX2 hc HL2 HU2
          go_wp2_with fail
          refine HC.out.mono ?_
          rintro e wq2 ⟨rfl, hR2, hK2⟩
          have HPD := Lib.hid (HX2.out _ _ hR2 hK2)
          clear hR2 hK2 HC HX2
          obtain ⟨X1, hQ1, hI1, hX1⟩ := HPD.out.sys (HTb.out.fresh HPD.out.bel) h2
          have HX1 := Lib.hid hX1
          have hBq := HPD.out.bel
          have HC := Lib.hid (crashQ hQ1 _ keep ((HKP.out.fresh hBq).mono (fun k hk hlt => hI1 k hk (.inl hlt))))
          clear hQ1 hI1 hX1 hBq
          go_wp2_with fail
          refine HC.out.mono ?_
          rintro e wq3 ⟨rfl, ks, hN1, hQ2, hK2⟩
          have HN1 := Lib.hid hN1
          have hlen3 := HD3.out.len HPD.out.ok.2.2
          have hsyn : ∀ f ∈ d3.L, 0 ≤ f.syn ∧ f.syn ≤ f.bytes.size ∧ f.bytes.size ≤ 1073741824 := fun f hf => by
            have h1 := HPD.out.ok.1.syn f hf
            have h2 := total_mem hf
            have h3 := HPD.out.ok.1.used
            have h4 := HPD.out.ok.1.room2
            exact ⟨h1.1, h1.2, by omega⟩
          have hnd3 := HPD.out.ok.2.2
          have HPD := Lib.hid (HX1.out _ _ hQ2 hK2)
          clear hQ2 hK2 HC HX1 hN1
          obtain ⟨X2, hR1, hI2, hX2⟩ := HPD.out.doc
          have HX2 := Lib.hid hX2
          have hBq := HPD.out.bel
          have HC := Lib.hid (crashR hR1 (by omega) hsyn _ keep ((HKP.out.fresh hBq).mono (fun k hk hlt => hI2 k hk (.inl hlt))))
          have HD4 := Lib.hid (HD3.out.crash hnd3 keep ks ks.length)
          clear hR1 hI2 hX2 hsyn hnd3 hlen3 hBq
          go_wp2_with fail
          refine HC.out.mono ?_
          rintro e wq4 ⟨rfl, ks', hN2, hR2, hK2⟩
          obtain rfl : ks = ks' := HN1.out.uniq hN2
          have HPD := Lib.hid (HX2.out _ _ hR2 hK2)
          obtain ⟨d4, hd4⟩ : ∃ v : Dk, (⟨d3.room, crashN keep ks d3.L ks.length⟩ : Dk) = v := ⟨_, rfl⟩
          rw [hd4] at HPD HD4
          clear hR2 hK2 HC HX2 hN2 hd4
          obtain ⟨X1, hQ1, hI1, hX1⟩ := HPD.out.sys (HTb.out.fresh HPD.out.bel) h2
          have HQ := Lib.hid hQ1
          clear hI1 hX1 hQ1
          have hsm := (HS0.out).rch.small (by have := (HS0.out).lL; omega) (by have := (HS0.out).lT; omega)
          have HC := Lib.hid (load_some HQ.out (HD4.out.yes _ rfl) hsm rfl)
          have hsb := strEq_false (show ¬ S0 = ⟨#[]⟩ from fun e => by
            have h1 := congrArg ByteArray.size (HSE.out.trans e)
            change (Bl (snpB (ptOf s0))).size = 0 at h1
            rw [Bl_size, snpB_len] at h1
            omega)
          have hsb2 := strEq_true (rfl : S0 = S0)
          have hsl : ¬ S0.toList = [] := by simpa using hsb
          have hse : S0.toList.isEmpty = false := by simpa using hsl
          clear hsm
          go_wp2_with fail
          refine HC.out.mono ?_
          rintro e wq5 ⟨q, F5, W5, rfl, hS5, hF5, hB5⟩
          have HPD5 := Lib.hid (HPD.out.fresh hB5)
          have HQ5 := Lib.hid (HQ.out.fresh hB5)
          have HST5 := Lib.hid (eqv_at hS5 (HS0.out).rch.eqv (HS0.out).rch.okL)
          have HU := snapPut_any wq5 (HTb.out.fresh HPD5.out.bel) q s0 F5 W5 HST5.out (HS0.out).rch (by have := (HS0.out).lL; omega) (by have := (HS0.out).lT; omega) (fun o ho => Nat.le_trans ((HS0.out).str o ho) (by decide))
          rw [show Bl (snpB (ptOf s0)) = S0 from HSE.out] at HU
          have HU := Lib.hid HU
          clear hB5 HC hS5 hF5
          go_wp2_with fail
          refine (usedQ HQ5.out).mono ?_
          rintro e wz ⟨rfl, rfl⟩
          go_wp2_with fail
          refine (mused_pd HPD5.out).mono ?_
          rintro e wz ⟨rfl, rfl⟩
          go_wp2_with fail
          refine HU.out.mono ?_
          rintro e wq6 ⟨rfl, hB6⟩
          have HPD6 := Lib.hid (HPD5.out.fresh hB6)
          clear hB6 HU
          go_wp2_with fail
          go_roundw
          case rel => exact ⟨k + 1, d4, _, _, some s0, S0, by omega, by omega, by go_num, rfl, HSE.out, HPD6.out, HD4.out, fun s' hs => by cases hs; exact HS0.out⟩
          case measure => simp [Go.RowKit.intOf]; omega
end Go.Proofs.YthebmbhdlkldiaaGreatDoor.Dsk
