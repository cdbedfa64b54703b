/- What was saved is loaded; which files acts leave alone: in plain words. Under the stated premises. -/
import Derived.Test.YthdehdlbocgfaaaDoorManE
import Derived.Test.YthdehdlbocgfaaaDoorSavB
namespace Go.Proofs.YthdehdlbocgfaaaDoor
open Go.RowKit Go.Bl

theorem numsF_put : ∀ (l : List Int) (r : List UInt8), (∀ x ∈ l, 0 ≤ x ∧ x ≤ 1099511627776) → numsF l.length (l.flatMap pb ++ r) = (l, r, 0)
  | [], _, _ => rfl
  | x :: l, r, h => by
    have hx := h x (List.mem_cons_self ..)
    have ht := tkN_pay (n := x) hx.1 hx.2 (l.flatMap pb ++ r)
    have hr := numsF_put l r (fun y hy => h y (List.mem_cons_of_mem _ hy))
    rw [List.length_cons, List.flatMap_cons, List.append_assoc]
    unfold numsF
    rw [show pb x = bytesOf (putL x.toNat) from rfl, ht, if_pos rfl]
    simp only [hr]
theorem ld_save {n : Int} {l : List Int} (h : rightB n l = true) : ldF (frmL crcU (manL n l)) = (n, l, true) := by
  obtain ⟨h1, h2, h3, h4⟩ := rightB_bd h
  have hfl := flat_len l (fun x hx => by have := h4 x hx; omega)
  have hp1 := pb_len (n := n) (by omega)
  have hp2 := pb_len (n := (l.length : Int)) (by omega)
  have hm : (manL n l).length = (pb n).length + (pb l.length).length + (l.flatMap pb).length := by unfold manL; rw [List.length_append, List.length_append]
  have ht := tkF_put crcU crcU_lt (manL n l) [] (by omega) (by omega)
  rw [List.append_nil] at ht
  have e1 : tkN (manL n l) = (n, pb l.length ++ l.flatMap pb, 0) := by
    unfold manL
    rw [List.append_assoc]
    exact tkN_pay (by omega) (by omega) _
  have e2 : tkN (pb l.length ++ l.flatMap pb) = ((l.length : Int), l.flatMap pb, 0) := tkN_pay (by omega) (by omega) _
  have e3 := numsF_put l [] (fun x hx => by have := h4 x hx; omega)
  rw [List.append_nil] at e3
  unfold ldF
  rw [ht]
  unfold ldP
  rw [e1]
  simp only [e2]
  have e4 : numsE (andE (andE 0 0) 0) ((l.length : Int)).toNat (l.flatMap pb) = (l, [], 0) := by
    show (if (0 : Int) = 0 then numsF l.length (l.flatMap pb) else _) = _
    rw [if_pos rfl, e3]
  rw [e4, h]
  rfl

theorem find_map_name (r : Int) (L : List Fl) (x y : ByteArray) (g : Fl → Fl) (hg : ∀ f, (g f).name = f.name) (hxy : y ≠ x) : (⟨r, updL x g L⟩ : Dk).find y = (⟨r, L⟩ : Dk).find y := by
  unfold Dk.find updL
  induction L with
  | nil => rfl
  | cons f L ih =>
    rw [List.map_cons, List.find?_cons, List.find?_cons]
    by_cases e : f.name = x
    · rw [if_pos e]
      have h1 : decide ((g f).name = y) = false := by rw [hg, e, decide_eq_false_iff_not]; exact fun h => hxy h.symm
      have h2 : decide (f.name = y) = false := by rw [e, decide_eq_false_iff_not]; exact fun h => hxy h.symm
      rw [h1, h2]
      exact ih
    · rw [if_neg e]
      cases decide (f.name = y)
      · exact ih
      · rfl
theorem find_filter (r r' : Int) (L : List Fl) (x y : ByteArray) (hxy : y ≠ x) : (⟨r, L.filter fun f => decide (f.name ≠ x)⟩ : Dk).find y = (⟨r', L⟩ : Dk).find y := by
  unfold Dk.find
  induction L with
  | nil => rfl
  | cons f L ih =>
    rw [List.filter_cons, List.find?_cons]
    by_cases e : f.name = x
    · have h2 : decide (f.name = y) = false := by rw [e, decide_eq_false_iff_not]; exact fun h => hxy h.symm
      rw [if_neg (by simp [e]), h2]
      exact ih
    · rw [if_pos (by simpa using e), List.find?_cons]
      cases decide (f.name = y)
      · exact ih
      · rfl
theorem find_del (d : Dk) {x y : ByteArray} (hxy : y ≠ x) : (d.del x).find y = d.find y := find_filter _ _ _ _ _ hxy
theorem find_sync (d : Dk) {x y : ByteArray} (hxy : y ≠ x) : (d.sync x).find y = d.find y := find_map_name _ _ _ _ syncF (fun _ => rfl) hxy
theorem find_app (d : Dk) {x y : ByteArray} (s : ByteArray) (hxy : y ≠ x) : (d.app x s).2.find y = d.find y := by
  unfold Dk.app
  split
  · rfl
  · split
    · split
      · rfl
      · split
        · rfl
        · show List.find? _ (d.L ++ [_]) = _
          rw [List.find?_append]
          have h2 : List.find? (fun f => decide (f.name = y)) [(⟨x, s, 0⟩ : Fl)] = none := by simp; exact fun h => hxy h.symm
          rw [h2, Option.or_none]
          rfl
    · split
      · rfl
      · exact find_map_name _ _ _ _ (growF s) (fun _ => rfl) hxy
/-- A file that is whole is there behind a crash. -/
theorem find_crash (r r' : Int) (keep : List Int) (ks : List ByteArray) (L : List Fl) (hn : (L.map Fl.name).Nodup) {y : ByteArray} {f : Fl} (hy : (⟨r, L⟩ : Dk).find y = some f) (hs : f.syn = f.bytes.size) : ∀ k, (⟨r', crashN keep ks L k⟩ : Dk).find y = some f
  | 0 => hy
  | k + 1 => by
    have ih := find_crash r r' keep ks L hn hy hs k
    obtain ⟨hf, hfy⟩ := find_some ih
    show (⟨r', updL _ _ (crashN keep ks L k)⟩ : Dk).find y = _
    by_cases e : y = (ks[k]?).getD ByteArray.empty
    · have hnn : ((crashN keep ks L k).map Fl.name).Nodup := by rw [crashN_names]; exact hn
      have h1 : updL ((ks[k]?).getD ByteArray.empty) (cutF (keepOf keep k)) (crashN keep ks L k) = crashN keep ks L k := by
        unfold updL
        conv => rhs; rw [← List.map_id (crashN keep ks L k)]
        refine List.map_congr_left fun q hq => ?_
        by_cases e2 : q.name = (ks[k]?).getD ByteArray.empty
        · have hqf : q = f := nodup_at hnn hq hf (by rw [e2, hfy, ← e])
          rw [if_pos e2, hqf, cutF_whole (keepOf_nonneg keep k) hs]
          rfl
        · rw [if_neg e2]; rfl
      rw [h1]
      exact ih
    · rw [find_map_name r' (crashN keep ks L k) _ y (cutF (keepOf keep k)) (fun _ => rfl) e]
      exact ih
theorem find_crash_none (r r' : Int) (keep : List Int) (ks : List ByteArray) (L : List Fl) {y : ByteArray} (hy : (⟨r, L⟩ : Dk).find y = none) (k : Nat) : (⟨r', crashN keep ks L k⟩ : Dk).find y = none := by
  rw [find_none] at hy ⊢
  intro f hf e
  have h1 : f.name ∈ L.map Fl.name := by rw [← crashN_names keep ks L k]; exact List.mem_map.2 ⟨f, hf, rfl⟩
  obtain ⟨g, hg, e2⟩ := List.mem_map.1 h1
  exact hy g hg (e2.trans e)
theorem find_snoc (r : Int) (L : List Fl) (f : Fl) (h : ∀ g ∈ L, g.name ≠ f.name) : (⟨r, L ++ [f]⟩ : Dk).find f.name = some f := by
  unfold Dk.find
  rw [List.find?_append, List.find?_eq_none.2 (by simpa using h)]
  simp
/-- Which names there are. -/
def NamesIn (S : List ByteArray) (d : Dk) : Prop := ∀ f ∈ d.L, f.name ∈ S
theorem nodup_sub : ∀ (l S : List ByteArray), l.Nodup → (∀ x ∈ l, x ∈ S) → l.length ≤ S.length
  | [], _, _, _ => Nat.zero_le _
  | x :: l, S, hn, h => by
    rw [List.nodup_cons] at hn
    have hx := h x (List.mem_cons_self ..)
    have ih := nodup_sub l (S.filter fun y => decide (y ≠ x)) hn.2 (fun y hy => List.mem_filter.2 ⟨h y (List.mem_cons_of_mem _ hy), decide_eq_true fun e => hn.1 (by rw [← e]; exact hy)⟩)
    have h2 := (List.length_filter_lt_length_iff_exists (p := fun y => decide (y ≠ x)) (l := S)).2 ⟨x, hx, by simp⟩
    rw [List.length_cons]
    omega
theorem NamesIn.len {S : List ByteArray} {d : Dk} (h : NamesIn S d) (hn : (d.L.map Fl.name).Nodup) : d.L.length ≤ S.length := by
  have h2 := nodup_sub _ S hn (fun x hx => by obtain ⟨f, hf, rfl⟩ := List.mem_map.1 hx; exact h f hf)
  rw [List.length_map] at h2
  exact h2
end Go.Proofs.YthdehdlbocgfaaaDoor
