/- A disk's files as a row in the order of their names (the document's disk): what each act makes of it, in plain words. No condition. -/
import Derived.Test.YtiphnobefigibaaDoorDskK
import Derived.Test.YtiphnobefigibaaDoorBlU
namespace Go.Proofs.YtiphnobefigibaaDoor
open Go.RowKit Go.Bl

def ltB (a b : ByteArray) : Bool := Op.bytesLess a.toList b.toList
theorem ltB_iff {a b : ByteArray} : ltB a b = true ↔ bLt a b := Iff.rfl
theorem bLt_totalF {a b : ByteArray} (h : a ≠ b) : bLt a b ∨ bLt b a := by
  rw [bLt_iff, bLt_iff]
  rcases List.le_total a.toList b.toList with h1 | h1
  · rcases List.le_iff_lt_or_eq.1 h1 with h2 | h2
    · exact .inl h2
    · exact absurd (bytes_extB h2) h
  · rcases List.le_iff_lt_or_eq.1 h1 with h2 | h2
    · exact .inr h2
    · exact absurd (bytes_extB h2).symm h
/-- How many files stand ahead of a name. -/
def aheadF : List Fl → ByteArray → Nat
  | [], _ => 0
  | f :: S, x => if ltB f.name x then aheadF S x + 1 else 0
/-- Is there a file of the name? -/
def isF (S : List Fl) (x : ByteArray) : Bool := match S[aheadF S x]? with | none => false | some f => decide (f.name = x)
def RiseF (S : List Fl) : Prop := S.Pairwise fun f g => bLt f.name g.name
theorem aheadF_le : ∀ (S : List Fl) (x : ByteArray), aheadF S x ≤ S.length
  | [], _ => Nat.le_refl _
  | f :: S, x => by
    unfold aheadF
    split
    · have := aheadF_le S x; simp only [List.length_cons]; omega
    · simp
theorem aheadF_eq : ∀ {S : List Fl} {x : ByteArray} {j : Nat}, j ≤ S.length → (∀ i f, i < j → S[i]? = some f → bLt f.name x) → (∀ f, S[j]? = some f → ¬ bLt f.name x) → aheadF S x = j
  | [], x, j, hj, _, _ => by simp at hj; simp [aheadF, hj]
  | f :: S, x, 0, _, _, h2 => by
    have hx : ltB f.name x = false := by cases hb : ltB f.name x; rfl; exact absurd (ltB_iff.1 hb) (h2 f rfl)
    simp [aheadF, hx]
  | f :: S, x, j + 1, hj, h1, h2 => by
    have hx : ltB f.name x = true := ltB_iff.2 (h1 0 f (by omega) rfl)
    unfold aheadF
    rw [if_pos hx, aheadF_eq (j := j) (by simpa using hj) (fun i y hi hy => h1 (i + 1) y (by omega) (by simpa using hy)) (fun y hy => h2 y (by simpa using hy))]
theorem take_lt : ∀ (S : List Fl) (x : ByteArray), ∀ f ∈ S.take (aheadF S x), bLt f.name x
  | [], _, f, hf => by simp at hf
  | g :: S, x, f, hf => by
    unfold aheadF at hf
    split at hf
    · rename_i hy
      rw [List.take_succ_cons] at hf
      rcases List.mem_cons.1 hf with rfl | hf
      · exact ltB_iff.1 hy
      · exact take_lt S x f hf
    · simp at hf
theorem at_aheadF : ∀ {S : List Fl} {x : ByteArray} (h : aheadF S x < S.length), ¬ bLt S[aheadF S x].name x
  | [], _, h => by simp at h
  | g :: S, x, h => by
    by_cases hy : ltB g.name x = true
    · have e : aheadF (g :: S) x = aheadF S x + 1 := by simp [aheadF, hy]
      have h' : aheadF S x < S.length := by rw [e] at h; simpa using h
      have := at_aheadF h'
      simpa [e] using this
    · have e : aheadF (g :: S) x = 0 := by simp [aheadF, hy]
      simp only [e, List.getElem_cons_zero]
      exact fun hb => hy (ltB_iff.2 hb)
theorem isF_yes {S : List Fl} {x : ByteArray} (h : isF S x = true) : ∃ hk : aheadF S x < S.length, S[aheadF S x].name = x := by
  unfold isF at h
  split at h
  · cases h
  · rename_i f hf
    obtain ⟨hk, e⟩ := List.getElem?_eq_some_iff.1 hf
    exact ⟨hk, by rw [e]; simpa using h⟩
theorem isF_no {S : List Fl} {x : ByteArray} (h : isF S x = false) (hk : aheadF S x < S.length) : S[aheadF S x].name ≠ x := by
  unfold isF at h
  rw [List.getElem?_eq_getElem hk] at h
  simpa using h
theorem drop_gt {S : List Fl} {x : ByteArray} (hr : RiseF S) (h : isF S x = false) : ∀ f ∈ S.drop (aheadF S x), bLt x f.name := by
  intro f hf
  by_cases hk : aheadF S x < S.length
  · have hr2 : (S.drop (aheadF S x)).Pairwise fun f g => bLt f.name g.name := hr.sublist (List.drop_sublist _ _)
    rw [List.drop_eq_getElem_cons hk] at hf hr2
    have h0 : bLt x S[aheadF S x].name := (bLt_totalF (isF_no h hk).symm).resolve_right (at_aheadF hk)
    rcases List.mem_cons.1 hf with rfl | hf
    · exact h0
    · exact bLt_transB h0 ((List.pairwise_cons.1 hr2).1 f hf)
  · rw [List.drop_eq_nil_of_le (by omega)] at hf; cases hf
theorem isF_none {S : List Fl} {x : ByteArray} (hr : RiseF S) (h : isF S x = false) : ∀ f ∈ S, f.name ≠ x := by
  intro f hf e
  rw [← List.take_append_drop (aheadF S x) S] at hf
  rcases List.mem_append.1 hf with hf | hf
  · have := take_lt S x f hf; rw [e] at this; exact bLt_irreflB _ this
  · have := drop_gt hr h f hf; rw [e] at this; exact bLt_irreflB _ this
/-- .. with one file more. -/
def insS (S : List Fl) (f : Fl) : List Fl := S.take (aheadF S f.name) ++ [f] ++ S.drop (aheadF S f.name)
theorem insS_rise {S : List Fl} {f : Fl} (hr : RiseF S) (h : isF S f.name = false) : RiseF (insS S f) := by
  have hr' : (S.take (aheadF S f.name) ++ S.drop (aheadF S f.name)).Pairwise (fun f g => bLt f.name g.name) := by rw [List.take_append_drop]; exact hr
  obtain ⟨q1, q2, q3⟩ := List.pairwise_append.1 hr'
  refine List.pairwise_append.2 ⟨List.pairwise_append.2 ⟨q1, by simp, fun a ha b hb => ?_⟩, q2, fun a ha b hb => ?_⟩
  · simp at hb; subst hb; exact take_lt S _ a ha
  · rcases List.mem_append.1 ha with ha | ha
    · exact q3 a ha b hb
    · simp at ha; subst ha; exact drop_gt hr h b hb
theorem insS_perm (S : List Fl) (f : Fl) : (insS S f).Perm (S ++ [f]) := by
  unfold insS
  have h1 : (S.take (aheadF S f.name) ++ [f] ++ S.drop (aheadF S f.name)).Perm (S.take (aheadF S f.name) ++ S.drop (aheadF S f.name) ++ [f]) := by
    rw [List.append_assoc, List.append_assoc]
    exact List.Perm.append_left _ List.perm_append_comm
  rwa [List.take_append_drop] at h1
/-- .. with one less. -/
def delS (S : List Fl) (x : ByteArray) : List Fl := S.take (aheadF S x) ++ S.drop (aheadF S x + 1)
theorem delS_eq {S : List Fl} {x : ByteArray} (hr : RiseF S) (h : isF S x = true) : delS S x = S.filter fun f => decide (f.name ≠ x) := by
  obtain ⟨hk, he⟩ := isF_yes h
  have hs : S = S.take (aheadF S x) ++ S[aheadF S x] :: S.drop (aheadF S x + 1) := by rw [← List.drop_eq_getElem_cons hk, List.take_append_drop]
  have hr2 : (S.drop (aheadF S x)).Pairwise fun f g => bLt f.name g.name := hr.sublist (List.drop_sublist _ _)
  rw [List.drop_eq_getElem_cons hk] at hr2
  have h1 : (S.take (aheadF S x)).filter (fun f => decide (f.name ≠ x)) = S.take (aheadF S x) := List.filter_eq_self.2 fun f hf => by
    simp only [decide_eq_true_eq]
    intro e
    have := take_lt S x f hf; rw [e] at this; exact bLt_irreflB _ this
  have h2 : (S.drop (aheadF S x + 1)).filter (fun f => decide (f.name ≠ x)) = S.drop (aheadF S x + 1) := List.filter_eq_self.2 fun f hf => by
    simp only [decide_eq_true_eq]
    intro e
    have := (List.pairwise_cons.1 hr2).1 f hf; rw [he, e] at this; exact bLt_irreflB _ this
  conv => rhs; rw [hs]
  rw [List.filter_append, List.filter_cons, h1, h2, if_neg (by simp [he])]
  rfl
theorem setS_eq {S : List Fl} {x : ByteArray} (hr : RiseF S) (h : isF S x = true) {g : Fl → Fl} {f : Fl} (hf : ∀ hk : aheadF S x < S.length, f = g S[aheadF S x]) : S.set (aheadF S x) f = updL x g S := by
  obtain ⟨hk, he⟩ := isF_yes h
  have hs : S = S.take (aheadF S x) ++ S[aheadF S x] :: S.drop (aheadF S x + 1) := by rw [← List.drop_eq_getElem_cons hk, List.take_append_drop]
  have hr2 : (S.drop (aheadF S x)).Pairwise fun f g => bLt f.name g.name := hr.sublist (List.drop_sublist _ _)
  rw [List.drop_eq_getElem_cons hk] at hr2
  have h1 : updL x g (S.take (aheadF S x)) = S.take (aheadF S x) := updL_not fun f hf e => by
    have := take_lt S x f hf; rw [e] at this; exact bLt_irreflB _ this
  have h2 : updL x g (S.drop (aheadF S x + 1)) = S.drop (aheadF S x + 1) := updL_not fun f hf e => by
    have := (List.pairwise_cons.1 hr2).1 f hf; rw [he, e] at this; exact bLt_irreflB _ this
  have h3 : updL x g S = updL x g (S.take (aheadF S x)) ++ updL x g (S[aheadF S x] :: S.drop (aheadF S x + 1)) := by
    conv => lhs; rw [hs]
    exact List.map_append
  rw [h3, h1, updL_cons, h2, if_pos he, ← hf hk, List.set_eq_take_append_cons_drop, if_pos hk]
theorem updL_perm {x : ByteArray} {g : Fl → Fl} {S L : List Fl} (h : S.Perm L) : (updL x g S).Perm (updL x g L) := h.map _
theorem RiseF.names {S S' : List Fl} (h : RiseF S) (he : S'.map Fl.name = S.map Fl.name) : RiseF S' := by
  have h1 : (S.map Fl.name).Pairwise bLt := List.pairwise_map.2 h
  rw [← he] at h1
  exact List.pairwise_map.1 h1
theorem RiseF.nodup {S : List Fl} (h : RiseF S) : (S.map Fl.name).Nodup := List.pairwise_map.2 (h.imp fun {a b} hab e => by rw [e] at hab; exact bLt_irreflB _ hab)

/-- S: the files of a disk, by their names. -/
structure Srt (d : Dk) (S : List Fl) : Prop where
  perm : S.Perm d.L
  rise : RiseF S
theorem Srt.none {d : Dk} {S : List Fl} (h : Srt d S) {x : ByteArray} (hx : isF S x = false) : d.find x = none :=
  find_none.2 fun f hf => isF_none h.rise hx f (h.perm.mem_iff.2 hf)
theorem Srt.nodup {d : Dk} {S : List Fl} (h : Srt d S) : (d.L.map Fl.name).Nodup := (h.perm.map Fl.name).nodup_iff.1 h.rise.nodup
theorem Srt.some {d : Dk} {S : List Fl} (h : Srt d S) {x : ByteArray} (hx : isF S x = true) {f : Fl} (hf : ∀ hk : aheadF S x < S.length, f = S[aheadF S x]) : d.find x = .some f := by
  obtain ⟨hk, he⟩ := isF_yes hx
  have e := hf hk
  have hm : f ∈ d.L := h.perm.mem_iff.1 (by rw [e]; exact List.getElem_mem hk)
  have hn : f.name = x := by rw [e]; exact he
  rw [← hn]
  exact find_mem h.nodup hm
theorem total_perm' {S L : List Fl} (h : S.Perm L) : total S = total L := (h.map fun f : Fl => f.bytes.size).sum_nat
theorem Srt.used {d : Dk} {S : List Fl} (h : Srt d S) : (total S : Int) = d.used := by unfold Dk.used; rw [total_perm' h.perm]
theorem Srt.names {d : Dk} {S : List Fl} (h : Srt d S) : Names d.L (S.map Fl.name) :=
  ⟨List.pairwise_map.2 h.rise, fun s => by
    rw [List.mem_map]
    exact ⟨fun ⟨f, hf, e⟩ => ⟨f, h.perm.mem_iff.1 hf, e⟩, fun ⟨f, hf, e⟩ => ⟨f, h.perm.mem_iff.2 hf, e⟩⟩⟩
theorem Srt.upd {d : Dk} {S : List Fl} (h : Srt d S) (x : ByteArray) {g : Fl → Fl} (hg : ∀ f, (g f).name = f.name) : Srt ⟨d.room, updL x g d.L⟩ (updL x g S) :=
  ⟨updL_perm h.perm, h.rise.names (updL_names x hg S)⟩
theorem Srt.put {d : Dk} {S : List Fl} (h : Srt d S) {f : Fl} (hx : isF S f.name = false) : Srt ⟨d.room, d.L ++ [f]⟩ (insS S f) :=
  ⟨(insS_perm S f).trans (h.perm.append_right _), insS_rise h.rise hx⟩
theorem Srt.del {d : Dk} {S : List Fl} (h : Srt d S) (x : ByteArray) : Srt (d.del x) (S.filter fun f => decide (f.name ≠ x)) :=
  ⟨h.perm.filter _, List.Pairwise.filter _ h.rise⟩
theorem filter_no {S : List Fl} {x : ByteArray} (hr : RiseF S) (h : isF S x = false) : (S.filter fun f => decide (f.name ≠ x)) = S := List.filter_eq_self.2 fun f hf => by simpa using isF_none hr h f hf
theorem isF_filter {S : List Fl} {x : ByteArray} : isF (S.filter fun f => decide (f.name ≠ x)) x = false := by
  cases hi : isF (S.filter fun f => decide (f.name ≠ x)) x
  · rfl
  · obtain ⟨hk, he⟩ := isF_yes hi
    have := (List.mem_filter.1 (List.getElem_mem hk)).2
    simp only [decide_eq_true_eq] at this
    exact absurd he this
/-- .. under another name. -/
theorem Srt.ren {d : Dk} {S : List Fl} (h : Srt d S) {x y : ByteArray} (hx : isF S x = true) (hy : nameB y = true) {f : Fl} (hf : ∀ hk : aheadF S x < S.length, f = S[aheadF S x]) :
    (d.ren x y).1 = 0 ∧ Srt (d.ren x y).2 (insS ((S.filter fun q => decide (q.name ≠ x)).filter fun q => decide (q.name ≠ y)) { f with name := y }) := by
  obtain ⟨hk, he⟩ := isF_yes hx
  have hfx : f.name = x := by rw [hf hk]; exact he
  have hfd := h.some hx hf
  have hi : isF ((S.filter fun q => decide (q.name ≠ x)).filter fun q => decide (q.name ≠ y)) y = false := isF_filter
  unfold Dk.ren
  rw [hfd]
  simp only
  rw [if_neg (by rw [hy]; decide)]
  by_cases hxy : x = y
  · rw [if_pos hxy]
    subst hxy
    refine ⟨rfl, ?_, insS_rise (List.Pairwise.filter _ (List.Pairwise.filter _ h.rise)) hi⟩
    refine (insS_perm _ _).trans ?_
    rw [List.filter_filter]
    simp only [Bool.and_self]
    have e : ({ f with name := x } : Fl) = f := by rw [← hfx]
    rw [e, ← delS_eq h.rise hx]
    refine List.Perm.trans ?_ h.perm
    have hs : S = S.take (aheadF S x) ++ S[aheadF S x] :: S.drop (aheadF S x + 1) := by rw [← List.drop_eq_getElem_cons hk, List.take_append_drop]
    conv => rhs; rw [hs]
    unfold delS
    rw [List.append_assoc, hf hk]
    exact List.Perm.append_left _ List.perm_append_comm
  · rw [if_neg hxy]
    refine ⟨rfl, ?_, insS_rise (List.Pairwise.filter _ (List.Pairwise.filter _ h.rise)) hi⟩
    refine (insS_perm _ _).trans (List.Perm.append_right _ ?_)
    show (List.filter _ (List.filter _ S)).Perm (List.filter _ (List.filter _ d.L))
    rw [List.filter_filter, List.filter_filter, hfx]
    refine (h.perm.filter _).trans (List.Perm.of_eq (List.filter_congr fun q _ => ?_))
    exact Bool.and_comm _ _
theorem crashN_perm {keep : List Int} {ks : List ByteArray} {S L : List Fl} (h : S.Perm L) : ∀ k, (crashN keep ks S k).Perm (crashN keep ks L k)
  | 0 => h
  | k + 1 => updL_perm (crashN_perm h k)
theorem Srt.crash {d : Dk} {S : List Fl} (h : Srt d S) (keep : List Int) (ks : List ByteArray) (k : Nat) : Srt ⟨d.room, crashN keep ks d.L k⟩ (crashN keep ks S k) :=
  ⟨crashN_perm h.perm k, h.rise.names (crashN_names keep ks S k)⟩
theorem RiseF.lt {S : List Fl} (hr : RiseF S) {i k : Nat} (h : i < k) (hk : k < S.length) : bLt (S[i]'(by omega)).name S[k].name := (List.pairwise_iff_getElem.1 hr) i k (by omega) hk h
theorem aheadF_at {S : List Fl} (hr : RiseF S) {k : Nat} (hk : k < S.length) : aheadF S S[k].name = k ∧ isF S S[k].name = true := by
  have h1 : aheadF S S[k].name = k := aheadF_eq (by omega) (fun i f hi hf => by
    obtain ⟨hi', e⟩ := List.getElem?_eq_some_iff.1 hf
    rw [← e]
    exact hr.lt hi hk) (fun f hf => by
    rw [List.getElem?_eq_getElem hk] at hf
    injection hf with hf
    rw [← hf]
    exact bLt_irreflB _)
  exact ⟨h1, by unfold isF; rw [h1, List.getElem?_eq_getElem hk]; simp⟩
theorem crash_at (keep : List Int) {S : List Fl} (hr : RiseF S) : ∀ (k i : Nat), k ≤ i → (h : i < S.length) → (crashN keep (S.map Fl.name) S k)[i]? = some S[i]
  | 0, i, _, h => List.getElem?_eq_getElem h
  | k + 1, i, hi, h => by
    have ih := crash_at keep hr k i (by omega) h
    have hk : k < (S.map Fl.name).length := by simp; omega
    rw [crashN_succ keep S hk]
    unfold updL
    rw [List.getElem?_map, ih, Option.map_some, if_neg ?_]
    rw [List.getElem_map]
    intro e
    have := hr.lt (i := k) (k := i) (by omega) h
    rw [e] at this
    exact bLt_irreflB _ this
/-- The row behind one cut more: one place is turned. -/
theorem crash_set (keep : List Int) {S : List Fl} (hr : RiseF S) {k : Nat} (hk : k < S.length) :
    crashN keep (S.map Fl.name) S (k + 1) = (crashN keep (S.map Fl.name) S k).set k (cutF (keepOf keep k) S[k]) := by
  have hat := crash_at keep hr k k (Nat.le_refl _) hk
  have hn := crashN_names keep (S.map Fl.name) S k
  have hkn : k < (S.map Fl.name).length := by simp; omega
  rw [crashN_succ keep S hkn, List.getElem_map]
  generalize crashN keep (S.map Fl.name) S k = C at hat hn ⊢
  obtain ⟨hC, hCk⟩ := List.getElem?_eq_some_iff.1 hat
  have hrC : RiseF C := hr.names hn
  obtain ⟨h1, h2⟩ := aheadF_at hrC hC
  rw [hCk] at h1 h2
  have := setS_eq hrC h2 (g := cutF (keepOf keep k)) (f := cutF (keepOf keep k) S[k]) (fun hh => by simp only [h1]; rw [hCk])
  rw [h1] at this
  exact this.symm
theorem crash_len (keep : List Int) (ks : List ByteArray) (S : List Fl) (k : Nat) : (crashN keep ks S k).length = S.length := by
  have := congrArg List.length (crashN_names keep ks S k)
  simpa using this
end Go.Proofs.YtiphnobefigibaaDoor
