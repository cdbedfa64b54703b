/- The document's disk: Crash. Under the stated premises on sizes. -/
import Derived.Test.YthebmbhdlkldiaaGreatDoorDskK
import Derived.Test.YthebmbhdlkldiaaGreatDoorRecA
import Derived.Test.YthebmbhdlkldiaaGreatDoorBlL
import Derived.Test.YthebmbhdlkldiaaGreatDoorBlR
import Derived.Test.YthebmbhdlkldiaaGreatDoorBlQ
import Derived.Test.YthebmbhdlkldiaaGreatDoorRecR
import Derived.BigQuiet
import Derived.IntWalk
/- A disk's files as a row in the order of their names (the document's disk): what each act makes of it, in plain words. No condition. -/
namespace Go.Proofs.YthebmbhdlkldiaaGreatDoor.Dsk
open Go.RowKit Go.Bl

def ltB (a b : ByteArray) : Bool := Op.bytesLess a.toList b.toList
theorem ltB_iff {a b : ByteArray} : ltB a b = true ↔ bLt a b := Iff.rfl
theorem bLt_totalF {a b : ByteArray} (h : a ≠ b) : bLt a b ∨ bLt b a := by
  rw [bLt_iff, bLt_iff]
  rcases List.le_total a.toList b.toList with h1 | h1
  · rcases List.le_iff_lt_or_eq.1 h1 with h2 | h2
    · exact .inl h2
    · exact absurd (bytes_extB h2) h
  · rcases List.le_iff_lt_or_eq.1 h1 with h2 | h2
    · exact .inr h2
    · exact absurd (bytes_extB h2).symm h
/-- How many files stand ahead of a name. -/
def aheadF : List Fl → ByteArray → Nat
  | [], _ => 0
  | f :: S, x => if ltB f.name x then aheadF S x + 1 else 0
/-- Is there a file of the name? -/
def isF (S : List Fl) (x : ByteArray) : Bool := match S[aheadF S x]? with | none => false | some f => decide (f.name = x)
def RiseF (S : List Fl) : Prop := S.Pairwise fun f g => bLt f.name g.name
theorem aheadF_le : ∀ (S : List Fl) (x : ByteArray), aheadF S x ≤ S.length
  | [], _ => Nat.le_refl _
  | f :: S, x => by
    unfold aheadF
    split
    · have := aheadF_le S x; simp only [List.length_cons]; omega
    · simp
theorem aheadF_eq : ∀ {S : List Fl} {x : ByteArray} {j : Nat}, j ≤ S.length → (∀ i f, i < j → S[i]? = some f → bLt f.name x) → (∀ f, S[j]? = some f → ¬ bLt f.name x) → aheadF S x = j
  | [], x, j, hj, _, _ => by simp at hj; simp [aheadF, hj]
  | f :: S, x, 0, _, _, h2 => by
    have hx : ltB f.name x = false := by cases hb : ltB f.name x; rfl; exact absurd (ltB_iff.1 hb) (h2 f rfl)
    simp [aheadF, hx]
  | f :: S, x, j + 1, hj, h1, h2 => by
    have hx : ltB f.name x = true := ltB_iff.2 (h1 0 f (by omega) rfl)
    unfold aheadF
    rw [if_pos hx, aheadF_eq (j := j) (by simpa using hj) (fun i y hi hy => h1 (i + 1) y (by omega) (by simpa using hy)) (fun y hy => h2 y (by simpa using hy))]
theorem take_lt : ∀ (S : List Fl) (x : ByteArray), ∀ f ∈ S.take (aheadF S x), bLt f.name x
  | [], _, f, hf => by simp at hf
  | g :: S, x, f, hf => by
    unfold aheadF at hf
    split at hf
    · rename_i hy
      rw [List.take_succ_cons] at hf
      rcases List.mem_cons.1 hf with rfl | hf
      · exact ltB_iff.1 hy
      · exact take_lt S x f hf
    · simp at hf
theorem at_aheadF : ∀ {S : List Fl} {x : ByteArray} (h : aheadF S x < S.length), ¬ bLt S[aheadF S x].name x
  | [], _, h => by simp at h
  | g :: S, x, h => by
    by_cases hy : ltB g.name x = true
    · have e : aheadF (g :: S) x = aheadF S x + 1 := by simp [aheadF, hy]
      have h' : aheadF S x < S.length := by rw [e] at h; simpa using h
      have := at_aheadF h'
      simpa [e] using this
    · have e : aheadF (g :: S) x = 0 := by simp [aheadF, hy]
      simp only [e, List.getElem_cons_zero]
      exact fun hb => hy (ltB_iff.2 hb)
theorem isF_yes {S : List Fl} {x : ByteArray} (h : isF S x = true) : ∃ hk : aheadF S x < S.length, S[aheadF S x].name = x := by
  unfold isF at h
  split at h
  · cases h
  · rename_i f hf
    obtain ⟨hk, e⟩ := List.getElem?_eq_some_iff.1 hf
    exact ⟨hk, by rw [e]; simpa using h⟩
theorem isF_no {S : List Fl} {x : ByteArray} (h : isF S x = false) (hk : aheadF S x < S.length) : S[aheadF S x].name ≠ x := by
  unfold isF at h
  rw [List.getElem?_eq_getElem hk] at h
  simpa using h
theorem drop_gt {S : List Fl} {x : ByteArray} (hr : RiseF S) (h : isF S x = false) : ∀ f ∈ S.drop (aheadF S x), bLt x f.name := by
  intro f hf
  by_cases hk : aheadF S x < S.length
  · have hr2 : (S.drop (aheadF S x)).Pairwise fun f g => bLt f.name g.name := hr.sublist (List.drop_sublist _ _)
    rw [List.drop_eq_getElem_cons hk] at hf hr2
    have h0 : bLt x S[aheadF S x].name := (bLt_totalF (isF_no h hk).symm).resolve_right (at_aheadF hk)
    rcases List.mem_cons.1 hf with rfl | hf
    · exact h0
    · exact bLt_transB h0 ((List.pairwise_cons.1 hr2).1 f hf)
  · rw [List.drop_eq_nil_of_le (by omega)] at hf; cases hf
theorem isF_none {S : List Fl} {x : ByteArray} (hr : RiseF S) (h : isF S x = false) : ∀ f ∈ S, f.name ≠ x := by
  intro f hf e
  rw [← List.take_append_drop (aheadF S x) S] at hf
  rcases List.mem_append.1 hf with hf | hf
  · have := take_lt S x f hf; rw [e] at this; exact bLt_irreflB _ this
  · have := drop_gt hr h f hf; rw [e] at this; exact bLt_irreflB _ this
/-- .. with one file more. -/
def insS (S : List Fl) (f : Fl) : List Fl := S.take (aheadF S f.name) ++ [f] ++ S.drop (aheadF S f.name)
theorem insS_rise {S : List Fl} {f : Fl} (hr : RiseF S) (h : isF S f.name = false) : RiseF (insS S f) := by
  have hr' : (S.take (aheadF S f.name) ++ S.drop (aheadF S f.name)).Pairwise (fun f g => bLt f.name g.name) := by rw [List.take_append_drop]; exact hr
  obtain ⟨q1, q2, q3⟩ := List.pairwise_append.1 hr'
  refine List.pairwise_append.2 ⟨List.pairwise_append.2 ⟨q1, by simp, fun a ha b hb => ?_⟩, q2, fun a ha b hb => ?_⟩
  · simp at hb; subst hb; exact take_lt S _ a ha
  · rcases List.mem_append.1 ha with ha | ha
    · exact q3 a ha b hb
    · simp at ha; subst ha; exact drop_gt hr h b hb
theorem insS_perm (S : List Fl) (f : Fl) : (insS S f).Perm (S ++ [f]) := by
  unfold insS
  have h1 : (S.take (aheadF S f.name) ++ [f] ++ S.drop (aheadF S f.name)).Perm (S.take (aheadF S f.name) ++ S.drop (aheadF S f.name) ++ [f]) := by
    rw [List.append_assoc, List.append_assoc]
    exact List.Perm.append_left _ List.perm_append_comm
  rwa [List.take_append_drop] at h1
/-- .. with one less. -/
def delS (S : List Fl) (x : ByteArray) : List Fl := S.take (aheadF S x) ++ S.drop (aheadF S x + 1)
theorem delS_eq {S : List Fl} {x : ByteArray} (hr : RiseF S) (h : isF S x = true) : delS S x = S.filter fun f => decide (f.name ≠ x) := by
  obtain ⟨hk, he⟩ := isF_yes h
  have hs : S = S.take (aheadF S x) ++ S[aheadF S x] :: S.drop (aheadF S x + 1) := by rw [← List.drop_eq_getElem_cons hk, List.take_append_drop]
  have hr2 : (S.drop (aheadF S x)).Pairwise fun f g => bLt f.name g.name := hr.sublist (List.drop_sublist _ _)
  rw [List.drop_eq_getElem_cons hk] at hr2
  have h1 : (S.take (aheadF S x)).filter (fun f => decide (f.name ≠ x)) = S.take (aheadF S x) := List.filter_eq_self.2 fun f hf => by
    simp only [decide_eq_true_eq]
    intro e
    have := take_lt S x f hf; rw [e] at this; exact bLt_irreflB _ this
  have h2 : (S.drop (aheadF S x + 1)).filter (fun f => decide (f.name ≠ x)) = S.drop (aheadF S x + 1) := List.filter_eq_self.2 fun f hf => by
    simp only [decide_eq_true_eq]
    intro e
    have := (List.pairwise_cons.1 hr2).1 f hf; rw [he, e] at this; exact bLt_irreflB _ this
  conv => rhs; rw [hs]
  rw [List.filter_append, List.filter_cons, h1, h2, if_neg (by simp [he])]
  rfl
theorem setS_eq {S : List Fl} {x : ByteArray} (hr : RiseF S) (h : isF S x = true) {g : Fl → Fl} {f : Fl} (hf : ∀ hk : aheadF S x < S.length, f = g S[aheadF S x]) : S.set (aheadF S x) f = updL x g S := by
  obtain ⟨hk, he⟩ := isF_yes h
  have hs : S = S.take (aheadF S x) ++ S[aheadF S x] :: S.drop (aheadF S x + 1) := by rw [← List.drop_eq_getElem_cons hk, List.take_append_drop]
  have hr2 : (S.drop (aheadF S x)).Pairwise fun f g => bLt f.name g.name := hr.sublist (List.drop_sublist _ _)
  rw [List.drop_eq_getElem_cons hk] at hr2
  have h1 : updL x g (S.take (aheadF S x)) = S.take (aheadF S x) := updL_not fun f hf e => by
    have := take_lt S x f hf; rw [e] at this; exact bLt_irreflB _ this
  have h2 : updL x g (S.drop (aheadF S x + 1)) = S.drop (aheadF S x + 1) := updL_not fun f hf e => by
    have := (List.pairwise_cons.1 hr2).1 f hf; rw [he, e] at this; exact bLt_irreflB _ this
  have h3 : updL x g S = updL x g (S.take (aheadF S x)) ++ updL x g (S[aheadF S x] :: S.drop (aheadF S x + 1)) := by
    conv => lhs; rw [hs]
    exact List.map_append
  rw [h3, h1, updL_cons, h2, if_pos he, ← hf hk, List.set_eq_take_append_cons_drop, if_pos hk]
theorem updL_perm {x : ByteArray} {g : Fl → Fl} {S L : List Fl} (h : S.Perm L) : (updL x g S).Perm (updL x g L) := h.map _
theorem RiseF.names {S S' : List Fl} (h : RiseF S) (he : S'.map Fl.name = S.map Fl.name) : RiseF S' := by
  have h1 : (S.map Fl.name).Pairwise bLt := List.pairwise_map.2 h
  rw [← he] at h1
  exact List.pairwise_map.1 h1
theorem RiseF.nodup {S : List Fl} (h : RiseF S) : (S.map Fl.name).Nodup := List.pairwise_map.2 (h.imp fun {a b} hab e => by rw [e] at hab; exact bLt_irreflB _ hab)

/-- S: the files of a disk, by their names. -/
structure Srt (d : Dk) (S : List Fl) : Prop where
  perm : S.Perm d.L
  rise : RiseF S
theorem Srt.none {d : Dk} {S : List Fl} (h : Srt d S) {x : ByteArray} (hx : isF S x = false) : d.find x = none :=
  find_none.2 fun f hf => isF_none h.rise hx f (h.perm.mem_iff.2 hf)
theorem Srt.nodup {d : Dk} {S : List Fl} (h : Srt d S) : (d.L.map Fl.name).Nodup := (h.perm.map Fl.name).nodup_iff.1 h.rise.nodup
theorem Srt.some {d : Dk} {S : List Fl} (h : Srt d S) {x : ByteArray} (hx : isF S x = true) {f : Fl} (hf : ∀ hk : aheadF S x < S.length, f = S[aheadF S x]) : d.find x = .some f := by
  obtain ⟨hk, he⟩ := isF_yes hx
  have e := hf hk
  have hm : f ∈ d.L := h.perm.mem_iff.1 (by rw [e]; exact List.getElem_mem hk)
  have hn : f.name = x := by rw [e]; exact he
  rw [← hn]
  exact find_mem h.nodup hm
theorem total_perm' {S L : List Fl} (h : S.Perm L) : total S = total L := (h.map fun f : Fl => f.bytes.size).sum_nat
theorem Srt.used {d : Dk} {S : List Fl} (h : Srt d S) : (total S : Int) = d.used := by unfold Dk.used; rw [total_perm' h.perm]
theorem Srt.names {d : Dk} {S : List Fl} (h : Srt d S) : Names d.L (S.map Fl.name) :=
  ⟨List.pairwise_map.2 h.rise, fun s => by
    rw [List.mem_map]
    exact ⟨fun ⟨f, hf, e⟩ => ⟨f, h.perm.mem_iff.1 hf, e⟩, fun ⟨f, hf, e⟩ => ⟨f, h.perm.mem_iff.2 hf, e⟩⟩⟩
theorem Srt.upd {d : Dk} {S : List Fl} (h : Srt d S) (x : ByteArray) {g : Fl → Fl} (hg : ∀ f, (g f).name = f.name) : Srt ⟨d.room, updL x g d.L⟩ (updL x g S) :=
  ⟨updL_perm h.perm, h.rise.names (updL_names x hg S)⟩
theorem Srt.put {d : Dk} {S : List Fl} (h : Srt d S) {f : Fl} (hx : isF S f.name = false) : Srt ⟨d.room, d.L ++ [f]⟩ (insS S f) :=
  ⟨(insS_perm S f).trans (h.perm.append_right _), insS_rise h.rise hx⟩
theorem Srt.del {d : Dk} {S : List Fl} (h : Srt d S) (x : ByteArray) : Srt (d.del x) (S.filter fun f => decide (f.name ≠ x)) :=
  ⟨h.perm.filter _, List.Pairwise.filter _ h.rise⟩
theorem filter_no {S : List Fl} {x : ByteArray} (hr : RiseF S) (h : isF S x = false) : (S.filter fun f => decide (f.name ≠ x)) = S := List.filter_eq_self.2 fun f hf => by simpa using isF_none hr h f hf
theorem isF_filter {S : List Fl} {x : ByteArray} : isF (S.filter fun f => decide (f.name ≠ x)) x = false := by
  cases hi : isF (S.filter fun f => decide (f.name ≠ x)) x
  · rfl
  · obtain ⟨hk, he⟩ := isF_yes hi
    have := (List.mem_filter.1 (List.getElem_mem hk)).2
    simp only [decide_eq_true_eq] at this
    exact absurd he this
/-- .. under another name. -/
theorem Srt.ren {d : Dk} {S : List Fl} (h : Srt d S) {x y : ByteArray} (hx : isF S x = true) (hy : nameB y = true) {f : Fl} (hf : ∀ hk : aheadF S x < S.length, f = S[aheadF S x]) :
    (d.ren x y).1 = 0 ∧ Srt (d.ren x y).2 (insS ((S.filter fun q => decide (q.name ≠ x)).filter fun q => decide (q.name ≠ y)) { f with name := y }) := by
  obtain ⟨hk, he⟩ := isF_yes hx
  have hfx : f.name = x := by rw [hf hk]; exact he
  have hfd := h.some hx hf
  have hi : isF ((S.filter fun q => decide (q.name ≠ x)).filter fun q => decide (q.name ≠ y)) y = false := isF_filter
  unfold Dk.ren
  rw [hfd]
  simp only
  rw [if_neg (by rw [hy]; decide)]
  by_cases hxy : x = y
  · rw [if_pos hxy]
    subst hxy
    refine ⟨rfl, ?_, insS_rise (List.Pairwise.filter _ (List.Pairwise.filter _ h.rise)) hi⟩
    refine (insS_perm _ _).trans ?_
    rw [List.filter_filter]
    simp only [Bool.and_self]
    have e : ({ f with name := x } : Fl) = f := by rw [← hfx]
    rw [e, ← delS_eq h.rise hx]
    refine List.Perm.trans ?_ h.perm
    have hs : S = S.take (aheadF S x) ++ S[aheadF S x] :: S.drop (aheadF S x + 1) := by rw [← List.drop_eq_getElem_cons hk, List.take_append_drop]
    conv => rhs; rw [hs]
    unfold delS
    rw [List.append_assoc, hf hk]
    exact List.Perm.append_left _ List.perm_append_comm
  · rw [if_neg hxy]
    refine ⟨rfl, ?_, insS_rise (List.Pairwise.filter _ (List.Pairwise.filter _ h.rise)) hi⟩
    refine (insS_perm _ _).trans (List.Perm.append_right _ ?_)
    show (List.filter _ (List.filter _ S)).Perm (List.filter _ (List.filter _ d.L))
    rw [List.filter_filter, List.filter_filter, hfx]
    refine (h.perm.filter _).trans (List.Perm.of_eq (List.filter_congr fun q _ => ?_))
    exact Bool.and_comm _ _
theorem crashN_perm {keep : List Int} {ks : List ByteArray} {S L : List Fl} (h : S.Perm L) : ∀ k, (crashN keep ks S k).Perm (crashN keep ks L k)
  | 0 => h
  | k + 1 => updL_perm (crashN_perm h k)
theorem Srt.crash {d : Dk} {S : List Fl} (h : Srt d S) (keep : List Int) (ks : List ByteArray) (k : Nat) : Srt ⟨d.room, crashN keep ks d.L k⟩ (crashN keep ks S k) :=
  ⟨crashN_perm h.perm k, h.rise.names (crashN_names keep ks S k)⟩
theorem RiseF.lt {S : List Fl} (hr : RiseF S) {i k : Nat} (h : i < k) (hk : k < S.length) : bLt (S[i]'(by omega)).name S[k].name := (List.pairwise_iff_getElem.1 hr) i k (by omega) hk h
theorem aheadF_at {S : List Fl} (hr : RiseF S) {k : Nat} (hk : k < S.length) : aheadF S S[k].name = k ∧ isF S S[k].name = true := by
  have h1 : aheadF S S[k].name = k := aheadF_eq (by omega) (fun i f hi hf => by
    obtain ⟨hi', e⟩ := List.getElem?_eq_some_iff.1 hf
    rw [← e]
    exact hr.lt hi hk) (fun f hf => by
    rw [List.getElem?_eq_getElem hk] at hf
    injection hf with hf
    rw [← hf]
    exact bLt_irreflB _)
  exact ⟨h1, by unfold isF; rw [h1, List.getElem?_eq_getElem hk]; simp⟩
theorem crash_at (keep : List Int) {S : List Fl} (hr : RiseF S) : ∀ (k i : Nat), k ≤ i → (h : i < S.length) → (crashN keep (S.map Fl.name) S k)[i]? = some S[i]
  | 0, i, _, h => List.getElem?_eq_getElem h
  | k + 1, i, hi, h => by
    have ih := crash_at keep hr k i (by omega) h
    have hk : k < (S.map Fl.name).length := by simp; omega
    rw [crashN_succ keep S hk]
    unfold updL
    rw [List.getElem?_map, ih, Option.map_some, if_neg ?_]
    rw [List.getElem_map]
    intro e
    have := hr.lt (i := k) (k := i) (by omega) h
    rw [e] at this
    exact bLt_irreflB _ this
/-- The row behind one cut more: one place is turned. -/
theorem crash_set (keep : List Int) {S : List Fl} (hr : RiseF S) {k : Nat} (hk : k < S.length) :
    crashN keep (S.map Fl.name) S (k + 1) = (crashN keep (S.map Fl.name) S k).set k (cutF (keepOf keep k) S[k]) := by
  have hat := crash_at keep hr k k (Nat.le_refl _) hk
  have hn := crashN_names keep (S.map Fl.name) S k
  have hkn : k < (S.map Fl.name).length := by simp; omega
  rw [crashN_succ keep S hkn, List.getElem_map]
  generalize crashN keep (S.map Fl.name) S k = C at hat hn ⊢
  obtain ⟨hC, hCk⟩ := List.getElem?_eq_some_iff.1 hat
  have hrC : RiseF C := hr.names hn
  obtain ⟨h1, h2⟩ := aheadF_at hrC hC
  rw [hCk] at h1 h2
  have := setS_eq hrC h2 (g := cutF (keepOf keep k)) (f := cutF (keepOf keep k) S[k]) (fun hh => by simp only [h1]; rw [hCk])
  rw [h1] at this
  exact this.symm
theorem crash_len (keep : List Int) (ks : List ByteArray) (S : List Fl) (k : Nat) : (crashN keep ks S k).length = S.length := by
  have := congrArg List.length (crashN_names keep ks S k)
  simpa using this
end Go.Proofs.YthebmbhdlkldiaaGreatDoor.Dsk

/- The document's disk (bucketlineref8): what a block of it holds; New, find, Used, Read, Synced, List. Under the stated premises on sizes. -/
namespace Go.Proofs.YthebmbhdlkldiaaGreatDoor.Dsk
open Go.RowKit Go.Bl
attribute [local go_sem ↓] Go.wp_at_zero Go.wp_at_succ

def filc (f : Fl) : List Value := [.string f.name, .string f.bytes, .int .i64 f.syn]
theorem filc_one (x : Fl) (u : Value) (h : u ∈ filc x) : u.oneCell' = true := by
  simp only [filc, List.mem_cons, List.not_mem_nil, or_false] at h
  rcases h with rfl | rfl | rfl <;> rfl
theorem infoFl : (Tryz.prog.info? 141).map (fun i => (i.zero, i.size, i.bytes)) = some (some (.agg #[.string ByteArray.empty, .string ByteArray.empty, .int .i64 0]), 3, 40) := by kernel_rfl
theorem elFl : El Tryz.prog 130 141 3 40 filc := ⟨Tryz.underlying130, ⟨_, infoFl, rfl⟩, by decide, by decide, fun _ => rfl, filc_one⟩
theorem strcD_one (x : ByteArray) (u : Value) (h : u ∈ strc x) : u.oneCell' = true := by
  simp only [strc, List.mem_cons, List.not_mem_nil, or_false] at h
  subst h; rfl
theorem infoStrD : (Tryz.prog.info? 9).map (fun i => (i.zero, i.size, i.bytes)) = some (some (.string ByteArray.empty), 1, 16) := by kernel_rfl
theorem elStrD : El Tryz.prog 109 9 1 16 strc := ⟨Tryz.underlying109, ⟨_, infoStrD, rfl⟩, by decide, by decide, fun _ => rfl, strcD_one⟩

/-- Block m of w is the document's disk of these files. -/
structure MdIn (w : World) (m : Nat) (room : Int) (S : List Fl) (F : Nat → Prop) (v : Value) : Prop where
  blk : w.heap[m]? = some (.cells #[v, .int .i64 room] 132 (0, 0))
  row : Own w 0 141 3 filc v S
  fm : F m
  fv : ∀ b, v.ownBlock = some b → F b
  lt : ∀ k, F k → k < w.heap.size
def MdAt (w : World) (m : Nat) (room : Int) (S : List Fl) (F : Nat → Prop) : Prop := ∃ v, MdIn w m room S F v
section
variable {w w' : World} {m : Nat} {room : Int} {S : List Fl} {F G : Nat → Prop} {v : Value}
theorem MdIn.keep (h : MdIn w m room S F v) (hk : Keeps G w w') (hd : ∀ k, F k → ¬ G k) : MdIn w' m room S F v :=
  ⟨hk.grownTo h.blk (hd _ h.fm), h.row.keep hk (fun b hb => hd b (h.fv b hb)), h.fm, h.fv, fun k hF => Nat.lt_of_lt_of_le (h.lt k hF) hk.size⟩
theorem MdAt.keep (h : MdAt w m room S F) (hk : Keeps G w w') (hd : ∀ k, F k → ¬ G k) : MdAt w' m room S F := by
  obtain ⟨v, h⟩ := h
  exact ⟨v, h.keep hk hd⟩
theorem MdIn.fresh (h : MdIn w m room S F v) (hk : Below w.heap.size w w') : MdIn w' m room S F v := h.keep (Keeps.of_fresh hk fun _ => False) (fun _ _ => id)
theorem MdAt.fresh (h : MdAt w m room S F) (hk : Below w.heap.size w w') : MdAt w' m room S F := h.keep (Keeps.of_fresh hk fun _ => False) (fun _ _ => id)
theorem MdAt.lt (h : MdAt w m room S F) : ∀ k, F k → k < w.heap.size := by obtain ⟨v, h⟩ := h; exact h.lt
theorem MdAt.fm (h : MdAt w m room S F) : F m := by obtain ⟨v, h⟩ := h; exact h.fm
theorem MdIn.c0 (h : MdIn w m room S F v) : w.cell? ⟨m, 0, none⟩ = some v := cell_of_row w m 0 _ _ _ h.blk
theorem MdIn.c1 (h : MdIn w m room S F v) : w.cell? ⟨m, 1, none⟩ = some (.int .i64 room) := cell_of_row w m 1 _ _ _ h.blk
theorem MdIn.vp (h : MdIn w m room S F v) (e : v.ownBlock = some m) : False := by
  obtain ⟨_, h2⟩ := h.row
  rcases h2 with ⟨h2, _⟩ | ⟨g, cap, cur, h2, _, h3, _⟩
  · rw [h2] at e; simp [Value.ownBlock] at e
  · rw [h2] at e
    simp [Value.ownBlock] at e
    subst e
    rw [h.blk] at h3
    simp at h3
end
/-- The file of a name. -/
def fdS (S : List Fl) (x : ByteArray) : Option Fl := if isF S x = true then S[aheadF S x]? else none
theorem Srt.find {d : Dk} {S : List Fl} (h : Srt d S) (x : ByteArray) : d.find x = fdS S x := by
  unfold fdS
  cases hx : isF S x
  · rw [if_neg (by decide)]
    exact h.none hx
  · obtain ⟨hk, _⟩ := isF_yes hx
    rw [if_pos rfl, List.getElem?_eq_getElem hk]
    exact h.some hx (fun _ => rfl)

set_option maxHeartbeats 1000000 in
theorem mnew_ok (w : World) (room : Int) (h1 : 1 ≤ room) (h2 : room ≤ 1073741824) : Calls Tryz.prog 20 #[.int .i64 room] w fun e w' => ∃ m, e = .returned (.tuple #[.pointer (some ⟨m, 0, none⟩), .int .i64 0]) ∧
    MdAt w' m room [] (fun k => w.heap.size ≤ k ∧ k < w'.heap.size) ∧ Below w.heap.size w w' := by
  have d1 : decide (room < 1) = false := decide_eq_false (by omega)
  have d2 : decide (room > 1073741824) = false := decide_eq_false (by omega)
  go_enter Tryz.func20, Tryz.ntmps20
  go_wp2_with fail
  go_ret2
  have hb := heap_alloc_new w (.cells #[.slice none 0 0, .int .i64 room] 132)
  refine ⟨w.heap.size, rfl, ⟨_, hb, Own.nil_ _ _ _ _ _, ⟨Nat.le_refl _, by simp⟩, fun b e => by simp [Value.ownBlock] at e, fun k e => e.2⟩, (Below.refl _ _).alloc (Nat.le_refl _) _⟩

set_option maxRecDepth 8000 in
set_option maxHeartbeats 2000000 in
theorem find_any (w : World) (m : Nat) (room : Int) (S : List Fl) (F : Nat → Prop) (h : MdAt w m room S F) (x : ByteArray) (_hl : S.length ≤ 1000000) :
    Calls Tryz.prog 78 #[.pointer (some ⟨m, 0, none⟩), .string x] w fun e w' => e = .returned (.tuple #[.int .i64 (aheadF S x), .bool (isF S x)]) ∧ Below w.heap.size w w' := by
  obtain ⟨v, h⟩ := h
  obtain ⟨A, c, rfl, hc1, hc2⟩ := h.row.shape_ (n := S.length) rfl
  unfold maxLen at hc2
  have c0 := h.c0
  have HS := Lib.hid (h.row.sl elFl.len)
  clear h
  go_enter Tryz.func78, Tryz.ntmps78
  go_wp2_with fail
  go_loop [6] (fun i => ∃ k : Nat, k ≤ S.length ∧ i = .int .i64 k ∧ ∀ j f, j < k → S[j]? = some f → bLt f.name x) (fun i => S.length - (RowKit.intOf i).toNat)
  case atStart => exact ⟨0, Nat.zero_le _, rfl, fun j f hj => by omega⟩
  case round =>
    obtain ⟨k, hk, rfl, hlo⟩ := hrel
    have HLO := Lib.hid hlo
    clear hlo
    by_cases hlt : k < S.length
    · obtain ⟨b, o, rfl, _, _, hxx⟩ := HS.out.cell_ hlt
      have x0 := hxx 0 _ rfl
      simp only [Nat.add_zero] at x0
      clear hxx
      have hk0 : (0 : Int) ≤ (k : Int) := by omega
      have hk1 : (k : Int) < (S.length : Int) := by omega
      cases hb : Op.bytesLess S[k].name.toList x.toList
      · have HA : Hid (aheadF S x = k) := Lib.hid (aheadF_eq hk HLO.out (fun f hf => by
          rw [List.getElem?_eq_getElem hlt] at hf
          injection hf with hf
          subst hf
          intro hc
          have hc : Op.bytesLess S[k].name.toList x.toList = true := hc
          rw [hb] at hc; cases hc))
        have HI : Hid (isF S x = decide (S[k].name = x)) := Lib.hid (by unfold isF; rw [HA.out, List.getElem?_eq_getElem hlt])
        by_cases he : S[k].name = x
        · have de := strEq_true he
          have HI2 : Hid (isF S x = true) := Lib.hid (by rw [HI.out, decide_eq_true he])
          clear he HLO
          go_upto_region 4 with (fail)
          go_quiet (fail)
          go_wp2_with fail
          go_ret2
          exact ⟨by simp only [HA.out, HI2.out]; rfl, ⟨rfl, rfl, rfl, Nat.le_refl _, fun _ _ => rfl⟩⟩
        · have de := strEq_false he
          have HI2 : Hid (isF S x = false) := Lib.hid (by rw [HI.out, decide_eq_false he])
          clear he HLO
          go_upto_region 4 with (fail)
          go_quiet (fail)
          go_wp2_with fail
          go_ret2
          exact ⟨by simp only [HA.out, HI2.out]; rfl, ⟨rfl, rfl, rfl, Nat.le_refl _, fun _ _ => rfl⟩⟩
      · have HB : Hid (bLt S[k].name x) := Lib.hid hb
        go_wp2_with fail
        go_round
        case rel => exact ⟨k + 1, by omega, by go_num, fun j f hj hf => by
          by_cases e : j = k
          · subst e
            rw [List.getElem?_eq_getElem hlt] at hf
            injection hf with hf
            subst hf
            exact HB.out
          · exact HLO.out j f (by omega) hf⟩
        case measure => simp [RowKit.intOf]; omega
    · have hkd : k = S.length := by omega
      subst hkd
      have HA : Hid (aheadF S x = S.length) := Lib.hid (aheadF_eq (Nat.le_refl _) HLO.out (fun f hf => by simp at hf))
      have HI : Hid (isF S x = false) := Lib.hid (by unfold isF; rw [HA.out, List.getElem?_eq_none (Nat.le_refl _)])
      have dlt : decide ((S.length : Int) < (S.length : Int)) = false := decide_eq_false (by omega)
      clear HLO hlt
      go_upto_region 4 with (fail)
      go_quiet (fail)
      go_wp2_with fail
      go_ret2
      exact ⟨by simp only [HA.out, HI.out]; rfl, ⟨rfl, rfl, rfl, Nat.le_refl _, fun _ _ => rfl⟩⟩

set_option maxHeartbeats 1000000 in
theorem mused_any (w : World) (m : Nat) (room : Int) (S : List Fl) (F : Nat → Prop) (h : MdAt w m room S F) (_hl : S.length ≤ 1000000) (ht : total S ≤ 1000000000000) :
    Calls Tryz.prog 29 #[.pointer (some ⟨m, 0, none⟩)] w fun e w' => e = .returned (.int .i64 (total S)) ∧ w = w' := by
  obtain ⟨v, h⟩ := h
  obtain ⟨A, c, rfl, hc1, hc2⟩ := h.row.shape_ (n := S.length) rfl
  unfold maxLen at hc2
  have c0 := h.c0
  have HS := Lib.hid (h.row.sl elFl.len)
  clear h
  go_enter Tryz.func29, Tryz.ntmps29
  go_wp2_with fail
  go_loop [3, 4] (fun n i => ∃ k : Nat, k ≤ S.length ∧ i = .int .i64 k ∧ n = .int .i64 (total (S.take k))) (fun _ i => S.length - (RowKit.intOf i).toNat)
  case atStart => exact ⟨0, Nat.zero_le _, rfl, rfl⟩
  case round =>
    obtain ⟨k, hk, rfl, rfl⟩ := hrel
    by_cases hlt : k < S.length
    · obtain ⟨b, o, rfl, _, _, hxx⟩ := HS.out.cell_ hlt
      have x1 := hxx 1 _ rfl
      clear hxx
      have ht1 : total (S.take (k + 1)) = total (S.take k) + S[k].bytes.size := by
        rw [List.take_succ_eq_append_getElem hlt]
        simp only [total, List.map_append, List.sum_append, List.map_cons, List.map_nil, List.sum_cons, List.sum_nil]
        omega
      have hle : total (S.take (k + 1)) ≤ total S := by
        conv => rhs; rw [← List.take_append_drop (k + 1) S]
        simp only [total, List.map_append, List.sum_append]
        omega
      have HT := Lib.hid ht1
      obtain ⟨T, hT⟩ : ∃ T, total (S.take k) = T := ⟨_, rfl⟩
      rw [ht1, hT] at hle
      rw [hT] at HT ⊢
      clear ht1 hT
      have hTb : T ≤ 1000000000000 := by omega
      have hsb : S[k].bytes.size ≤ 1000000000000 := by omega
      clear hle
      go_wp2_with fail
      go_round
      case rel => exact ⟨k + 1, by omega, by go_num, by rw [HT.out]; go_num⟩
      case measure => simp [RowKit.intOf]; omega
    · have hkd : k = S.length := by omega
      subst hkd
      go_wp2_with fail
      go_ret
      exact ⟨by first | rfl | (rw [List.take_length]; rfl), rfl⟩

end Go.Proofs.YthebmbhdlkldiaaGreatDoor.Dsk

/- The document's disk: Sync, Delete, Append. Under the stated premises on sizes. -/
namespace Go.Proofs.YthebmbhdlkldiaaGreatDoor.Dsk
open Go.RowKit Go.Bl
attribute [local go_sem ↓] Go.wp_at_zero Go.wp_at_succ

theorem sizeFl (w : World) : (sizeOf 141).run Tryz.prog w = .ok 3 w := by kernel_rfl
/-- The document's disk d. -/
def MdD (w : World) (m : Nat) (d : Dk) (F : Nat → Prop) : Prop := ∃ S, MdAt w m d.room S F ∧ Srt d S
theorem MdD.keep {w w' : World} {m : Nat} {d : Dk} {F G : Nat → Prop} (h : MdD w m d F) (hk : Keeps G w w') (hd : ∀ k, F k → ¬ G k) : MdD w' m d F := by
  obtain ⟨S, h, hs⟩ := h
  exact ⟨S, h.keep hk hd, hs⟩
theorem MdD.fresh {w w' : World} {m : Nat} {d : Dk} {F : Nat → Prop} (h : MdD w m d F) (hk : Below w.heap.size w w') : MdD w' m d F := h.keep (Keeps.of_fresh hk fun _ => False) (fun _ _ => id)
theorem MdD.lt {w : World} {m : Nat} {d : Dk} {F : Nat → Prop} (h : MdD w m d F) : ∀ k, F k → k < w.heap.size := by obtain ⟨S, h, _⟩ := h; exact h.lt
/-- What an act leaves. -/
def MOut (w w' : World) (m : Nat) (d' : Dk) (F : Nat → Prop) : Prop := Keeps F w w' ∧ MdD w' m d' (fun k => F k ∨ (w.heap.size ≤ k ∧ k < w'.heap.size))
theorem MdAt.wide {w : World} {m : Nat} {room : Int} {S : List Fl} {F : Nat → Prop} (h : MdAt w m room S F) (b : Nat) : MdAt w m room S (fun k => F k ∨ (b ≤ k ∧ k < w.heap.size)) := by
  obtain ⟨v, h⟩ := h
  exact ⟨v, h.blk, h.row, .inl h.fm, fun q hq => .inl (h.fv q hq), fun k hk => by rcases hk with hk | hk; exact h.lt k hk; exact hk.2⟩
theorem MOut.same {w w' : World} {m : Nat} {d : Dk} {F : Nat → Prop} (h : MdD w m d F) (hB : Below w.heap.size w w') : MOut w w' m d F := by
  obtain ⟨S, h, hs⟩ := h
  exact ⟨Keeps.of_fresh hB F, S, (h.fresh hB).wide w.heap.size, hs⟩
/-- Another row is laid. -/
theorem MdIn.put {w w1 w3 : World} {m : Nat} {room : Int} {S S' : List Fl} {F : Nat → Prop} {v v' : Value} (h : MdIn w1 m room S F v) (hF : ∀ k, F k → k < w.heap.size) (hk : Keeps F w w1) (hB : Below w1.heap.size w1 w3) (hO : Own w3 w1.heap.size 141 3 filc v' S') :
    Keeps F w (w3.setCell ⟨m, 0, none⟩ v') ∧ MdAt (w3.setCell ⟨m, 0, none⟩ v') m room S' (fun k => F k ∨ (w.heap.size ≤ k ∧ k < (w3.setCell ⟨m, 0, none⟩ v').heap.size)) := by
  have hm := hF m h.fm
  have z1 := hk.size
  have z3 := hB.size
  have hks : Keeps (fun q => q = m) w3 (w3.setCell ⟨m, 0, none⟩ v') := (Keeps.refl (fun q => q = m) w3).setCell (p := ⟨m, 0, none⟩) (fun _ => rfl) v'
  have z4 := hks.size
  refine ⟨(hk.fresh hB).andThen hks (fun i _ e => e ▸ h.fm), v', ?_, ?_, .inl h.fm, fun b hb => ?_, fun k hk => ?_⟩
  · exact setCell_block' (o := 0) (v := v') ((h.fresh hB).blk)
  · exact (hO.lower (Nat.zero_le _)).keep hks (fun b hb e => by have := (hO.lt b hb).1; omega)
  · have := hO.lt b hb
    exact .inr ⟨by omega, by omega⟩
  · rcases hk with hk | hk
    · have := hF k hk; omega
    · exact hk.2
/-- One cell of the row is written. -/
theorem MdIn.set {w w1 : World} {m g n c : Nat} {room : Int} {S : List Fl} {F : Nat → Prop} (h : MdIn w1 m room S F (.slice (some ⟨g, 0, none⟩) n c)) (hF : ∀ k, F k → k < w.heap.size) (hk : Keeps F w w1) {i : Nat} (hi : i < S.length) {j : Nat} (hj : j < 3) {x : Fl} {u : Value} (hx : filc x = (filc S[i]).set j u) :
    Keeps F w (w1.setCell ⟨g, i * 3 + j, none⟩ u) ∧ MdAt (w1.setCell ⟨g, i * 3 + j, none⟩ u) m room (S.set i x) (fun k => F k ∨ (w.heap.size ≤ k ∧ k < (w1.setCell ⟨g, i * 3 + j, none⟩ u).heap.size)) := by
  have hg : F g := h.fv g rfl
  have hgm : g ≠ m := fun e => h.vp (by rw [← e]; rfl)
  have hks : Keeps (fun q => q = g) w1 (w1.setCell ⟨g, i * 3 + j, none⟩ u) := (Keeps.refl (fun q => q = g) w1).setCell (p := ⟨g, i * 3 + j, none⟩) (fun _ => rfl) u
  have z4 := hks.size
  have z1 := hk.size
  exact ⟨hk.andThen hks (fun i _ e => e ▸ hg), _, hks.grownTo h.blk (fun e => hgm e.symm), h.row.set elFl.len hi hj hx, .inl h.fm, fun b hb => .inl (h.fv b hb), fun k hk => by
    rcases hk with hk | hk
    · have := hF k hk; omega
    · exact hk.2⟩
theorem MdIn.head {w : World} {m : Nat} {room : Int} {S : List Fl} {F : Nat → Prop} {v : Value} (h : MdIn w m room S F v) (h0 : 0 < S.length) : ∃ g c cur, v = .slice (some ⟨g, 0, none⟩) S.length c ∧ S.length ≤ c ∧ c ≤ maxLen ∧ w.heap[g]? = some (.cells cur 141 (0, 0)) := by
  rcases h.row.2 with ⟨_, hn⟩ | ⟨g, cap, cur, hv, _, hg, h1, h2, _⟩
  · omega
  · exact ⟨g, cap, cur, hv, h1, h2, hg⟩

set_option maxRecDepth 8000 in
set_option maxHeartbeats 2000000 in
theorem msync_any (w : World) (m : Nat) (d : Dk) (F : Nat → Prop) (h : MdD w m d F) (hl : d.L.length ≤ 1000) (x : ByteArray) :
    Calls Tryz.prog 74 #[.pointer (some ⟨m, 0, none⟩), .string x] w fun e w' => e = .returned (.int .i64 (if d.find x = none then 6 else 0)) ∧ MOut w w' m (d.sync x) F := by
  obtain ⟨S, hS, hs⟩ := h
  have hlen : S.length ≤ 1000 := by rw [hs.perm.length_eq]; exact hl
  have hfind := find_any w m d.room S F hS x (by omega)
  have HS := Lib.hid hS
  have Hs := Lib.hid hs
  have hal := aheadF_le S x
  cases hx : isF S x
  · have hn := hs.none hx
    rw [hx] at hfind
    rw [if_pos hn, sync_no_d hn]
    have HF := Lib.hid hfind
    clear hfind hx hS hs hn
    go_enter Tryz.func74, Tryz.ntmps74
    go_wp2_with fail
    refine HF.out.mono ?_
    rintro e w1 ⟨rfl, hB⟩
    go_wp2_with fail
    go_ret
    exact ⟨rfl, MOut.same ⟨S, HS.out, Hs.out⟩ hB⟩
  · obtain ⟨hk, hn⟩ := isF_yes hx
    have hso := hs.some hx (f := S[aheadF S x]) (fun _ => rfl)
    have hset := setS_eq hs.rise hx (g := syncF) (f := syncF S[aheadF S x]) (fun _ => rfl)
    have HSET := Lib.hid hset
    rw [hx] at hfind
    rw [if_neg (by rw [hso]; simp)]
    clear hso hx hS hs hset hn
    generalize aheadF S x = k at hk hfind hal HSET ⊢
    have HF := Lib.hid hfind
    clear hfind
    go_enter Tryz.func74, Tryz.ntmps74
    go_wp2_with fail
    refine HF.out.mono ?_
    rintro e w1 ⟨rfl, hB⟩
    obtain ⟨v, h1⟩ := HS.out.fresh hB
    obtain ⟨g, c, cur, rfl, hc1, hc2, hg⟩ := h1.head (by omega)
    unfold maxLen at hc2
    have c0 := h1.c0
    obtain ⟨b, o, e, _, _, hxx⟩ := (h1.row.sl elFl.len).cell_ hk
    injection e with e
    injection e with e1 e2 _
    subst e1 e2
    have x1 := hxx 1 _ rfl
    have x2 := hxx 2 _ rfl
    simp only [Nat.zero_add] at x1 x2
    have f2 : w1.frozen? ⟨g, k * 3 + 2, none⟩ = false := frozen_block hg _
    have hk0 : (0 : Int) ≤ (k : Int) := by omega
    have hk1 : (k : Int) < (S.length : Int) := by omega
    have HB := Lib.hid hB
    have H1 := Lib.hid h1
    clear hxx h1 hB hg
    go_wp2_with fail
    go_still_tail 16, (by kernel_rfl)
    change wpList _ _ _ _ _ w1.drew
    go_wp2_with fail
    go_ret
    have H2 : MdIn w1.drew m d.room S F (.slice (some ⟨g, 0, none⟩) S.length c) := H1.out.fresh ⟨rfl, rfl, rfl, Nat.le_refl _, fun _ _ => rfl⟩
    obtain ⟨q1, q2⟩ := H2.set HS.out.lt ((Keeps.of_fresh HB.out F).drew) hk (j := 2) (by decide) (x := syncF S[k]) (u := .int .i64 S[k].bytes.size) rfl
    refine ⟨rfl, q1, updL x syncF S, ?_, Hs.out.upd x (fun _ => rfl)⟩
    rw [← HSET.out]
    exact q2
set_option maxRecDepth 8000 in
set_option maxHeartbeats 2000000 in
theorem mdelete_any (w : World) (m : Nat) (d : Dk) (F : Nat → Prop) (h : MdD w m d F) (hl : d.L.length ≤ 1000) (x : ByteArray) :
    Calls Tryz.prog 73 #[.pointer (some ⟨m, 0, none⟩), .string x] w fun e w' => e = .returned (.int .i64 (if d.find x = none then 6 else 0)) ∧ MOut w w' m (d.del x) F := by
  obtain ⟨S, hS, hs⟩ := h
  have hlen : S.length ≤ 1000 := by rw [hs.perm.length_eq]; exact hl
  have hfind := find_any w m d.room S F hS x (by omega)
  have HS := Lib.hid hS
  have Hs := Lib.hid hs
  have hal := aheadF_le S x
  cases hx : isF S x
  · have hn := hs.none hx
    rw [hx] at hfind
    rw [if_pos hn, del_none hn]
    have HF := Lib.hid hfind
    clear hfind hx hS hs hn
    go_enter Tryz.func73, Tryz.ntmps73
    go_wp2_with fail
    refine HF.out.mono ?_
    rintro e w1 ⟨rfl, hB⟩
    go_wp2_with fail
    go_ret
    exact ⟨rfl, MOut.same ⟨S, HS.out, Hs.out⟩ hB⟩
  · obtain ⟨hk, hn⟩ := isF_yes hx
    have hso := hs.some hx (f := S[aheadF S x]) (fun _ => rfl)
    have hset := delS_eq hs.rise hx
    unfold delS at hset
    have HSET := Lib.hid hset
    rw [hx] at hfind
    rw [if_neg (by rw [hso]; simp)]
    clear hso hx hS hs hset hn
    generalize aheadF S x = k at hk hfind hal HSET ⊢
    have HF := Lib.hid hfind
    clear hfind
    go_enter Tryz.func73, Tryz.ntmps73
    go_wp2_with fail
    refine HF.out.mono ?_
    rintro e w1 ⟨rfl, hB⟩
    obtain ⟨v, h1⟩ := HS.out.fresh hB
    obtain ⟨A, c, rfl, hc1, hc2⟩ := h1.row.shape_ (n := S.length) rfl
    unfold maxLen at hc2
    have c0 := h1.c0
    have hm := h1.lt _ h1.fm
    have HSl := Lib.hid (h1.row.sl elFl.len)
    have HB := Lib.hid hB
    have H1 := Lib.hid h1
    clear h1 hB
    have hch : ∀ w : World, (Instr.slice 130 (.slice A S.length c) none (some (.int .i64 (k : Int))) none).run Tryz.prog w = .ok (.slice (cutA A c 0 3) k c) w := fun w => by
      simpa using run_cut_high (P := Tryz.prog) Tryz.underlying130 sizeFl A S.length c (k : Int) (by omega) (by omega) w
    have hcl : ∀ w : World, (Instr.slice 130 (.slice A S.length c) (some (.int .i64 ((k:Int)+1))) none none).run Tryz.prog w = .ok (.slice (cutA A c (k+1) 3) (S.length - (k+1)) (c - (k+1))) w := fun w => by
      have := run_cut_low (P := Tryz.prog) Tryz.underlying130 sizeFl A S.length c ((k:Int)+1) (by omega) (by omega) w
      rwa [show ((k:Int)+1).toNat = k+1 by omega] at this
    have hj2 : k ≤ S.length := by omega
    have hj3 : k + 1 ≤ S.length := hk
    have tok : True := trivial
    go_wp2_with (first
      | (have hx1 := hown1
         at_builtin
         refine elFl.append _ (by rfl) (.tmp 24) (.tmp 31) (by rfl) w1.heap.size _ (S.take k) (by rfl) hx1 _ _ (S.drop (k + 1)) (by rfl) ((HSl.out.drop_ hj3).fresh HBA.out) (by simp; omega) HBA.out.size ?_
         intro v3 w3 hown3 hg3 hat3
         obtain ⟨A3, c3, rfl, _, _⟩ := hown3.shape_ (n := (S.take k ++ S.drop (k + 1)).length) rfl
         have Hown3 := Lib.hid hown3
         have hbd : Below w1.heap.size w1 w3 := HBA.out.grown hg3 HBA.out.size (fun q hq => (hx1.lt q hq).1)
         have HBD := Lib.hid hbd
         have e0 := (hbd.cell (p := ⟨m, 0, none⟩) hm).trans c0
         have f0 : w3.frozen? ⟨m, 0, none⟩ = false := frozen_block (H1.out.fresh hbd).blk 0
         clear hown3 hown1 hx1 hbd)
      | (have t := tok
         at_builtin
         refine elFl.append _ (by rfl) (.tmp 16) (.tmp 22) (by rfl) w1.heap.size (.slice (some ⟨w1.heap.size, 0, none⟩) 0 0) [] (by rfl) (Own.made w1 (Nat.le_refl _) _ _ _) _ _ (S.take k) (by rfl) ((HSl.out.take_ hj2).fresh ((Below.refl _ _).alloc (Nat.le_refl _) _)) (by simp; omega) (by simp) ?_
         intro v1 w2 hown1 hg1 hat1
         rw [List.nil_append] at hown1
         have hba : Below w1.heap.size w1 w2 := ((Below.refl _ w1).alloc (Nat.le_refl _) _).grown hg1 (by simp) (fun q hq => by simp [Value.ownBlock] at hq; omega)
         have HBA := Lib.hid hba
         have d0 := (hba.cell (p := ⟨m, 0, none⟩) hm).trans c0
         clear tok t hba))
    go_ret
    obtain ⟨q1, q2⟩ := H1.out.put HS.out.lt (Keeps.of_fresh HB.out F) HBD.out Hown3.out
    have hle : k + (S.length - (k + 1)) = (S.take k ++ S.drop (k + 1)).length := by simp; omega
    rw [hle]
    refine ⟨rfl, q1, _, q2, ?_⟩
    rw [HSET.out]
    exact Hs.out.del x
end Go.Proofs.YthebmbhdlkldiaaGreatDoor.Dsk

/- The document's disk: New refused, Append. Under the stated premises on sizes. -/
namespace Go.Proofs.YthebmbhdlkldiaaGreatDoor.Dsk
open Go.RowKit Go.Bl
attribute [local go_sem ↓] Go.wp_at_zero Go.wp_at_succ

theorem MdIn.putI {w w1 w3 : World} {m : Nat} {room : Int} {S S' : List Fl} {F : Nat → Prop} {v v' : Value} (h : MdIn w1 m room S F v) (hF : ∀ k, F k → k < w.heap.size) (hk : Keeps F w w1) (hB : Below w1.heap.size w1 w3) (hO : Own w3 w1.heap.size 141 3 filc v' S') :
    Keeps F w (w3.setCell ⟨m, 0, none⟩ v') ∧ MdIn (w3.setCell ⟨m, 0, none⟩ v') m room S' (fun k => F k ∨ (w.heap.size ≤ k ∧ k < (w3.setCell ⟨m, 0, none⟩ v').heap.size)) v' := by
  have hm := hF m h.fm
  have z1 := hk.size
  have z3 := hB.size
  have hks : Keeps (fun q => q = m) w3 (w3.setCell ⟨m, 0, none⟩ v') := (Keeps.refl (fun q => q = m) w3).setCell (p := ⟨m, 0, none⟩) (fun _ => rfl) v'
  have z4 := hks.size
  refine ⟨(hk.fresh hB).andThen hks (fun i _ e => e ▸ h.fm), ?_, ?_, .inl h.fm, fun b hb => ?_, fun k hk => ?_⟩
  · exact setCell_block' (o := 0) (v := v') ((h.fresh hB).blk)
  · exact (hO.lower (Nat.zero_le _)).keep hks (fun b hb e => by have := (hO.lt b hb).1; omega)
  · have := hO.lt b hb
    exact .inr ⟨by omega, by omega⟩
  · rcases hk with hk | hk
    · have := hF k hk; omega
    · exact hk.2
theorem MdAt.widen {w : World} {m : Nat} {room : Int} {S : List Fl} {F F' : Nat → Prop} (h : MdAt w m room S F) (hF : ∀ k, F k → F' k) (hl : ∀ k, F' k → k < w.heap.size) : MdAt w m room S F' := by
  obtain ⟨v, h⟩ := h
  exact ⟨v, h.blk, h.row, hF _ h.fm, fun q hq => hF _ (h.fv q hq), hl⟩
theorem ins_set {S : List Fl} {k : Nat} (hk : k ≤ S.length) {f0 : Fl} (h : k < (S.take k ++ [f0] ++ S.drop k).length) (f : Fl) : (S.take k ++ [f0] ++ S.drop k)[k] = f0 ∧ (S.take k ++ [f0] ++ S.drop k).set k f = S.take k ++ [f] ++ S.drop k := by
  have hl : (S.take k).length = k := by simp; omega
  constructor
  · rw [List.getElem_append_left (by simp; omega), List.getElem_append_right (by omega)]
    simp
  · rw [List.append_assoc, List.append_assoc, List.set_append_right _ _ (by omega), hl, Nat.sub_self]
    rfl
theorem mnew_bad (w : World) (room : Int) (h : room < 1 ∨ 1073741824 < room) : Calls Tryz.prog 20 #[.int .i64 room] w fun e w' => e = .returned (.tuple #[.pointer none, .int .i64 1]) ∧ w = w' := by
  go_enter Tryz.func20, Tryz.ntmps20
  by_cases h1 : room < 1
  · have d1 : decide (room < 1) = true := by simpa using h1
    go_wp2_with fail
    go_ret2
    exact ⟨rfl, rfl⟩
  · have d1 : decide (room < 1) = false := by simpa using h1
    have d2 : decide (1073741824 < room) = true := by simp; omega
    go_wp2_with fail
    go_ret2
    exact ⟨rfl, rfl⟩

set_option maxRecDepth 8000 in
set_option maxHeartbeats 4000000 in
theorem mappend_any (w : World) (m : Nat) (d : Dk) (F : Nat → Prop) (h : MdD w m d F) (hl : d.L.length ≤ 1000) (ht : d.used ≤ 1000000000000) (x s : ByteArray) (hx1 : x.size ≤ 1000000) (hs1 : s.size ≤ 1000000000) :
    Calls Tryz.prog 24 #[.pointer (some ⟨m, 0, none⟩), .string x, .string s] w fun e w' => e = .returned (.int .i64 (d.app x s).1) ∧ MOut w w' m (d.app x s).2 F := by
  obtain ⟨S, hS, hs⟩ := h
  have hlen : S.length ≤ 1000 := by rw [hs.perm.length_eq]; exact hl
  have hleq : S.length = d.L.length := hs.perm.length_eq
  have hus := hs.used
  have hname := rname_any w x (by omega)
  have HS := Lib.hid hS
  have Hs := Lib.hid hs
  have hal := aheadF_le S x
  by_cases hn : nameB x = true
  · rw [hn] at hname
    have hfind : ∀ w1, Below w.heap.size w w1 → Calls Tryz.prog 78 #[.pointer (some ⟨m, 0, none⟩), .string x] w1 fun e w' => e = .returned (.tuple #[.int .i64 (aheadF S x), .bool (isF S x)]) ∧ Below w1.heap.size w1 w' :=
      fun w1 hB => find_any w1 m d.room S F (HS.out.fresh hB) x (by omega)
    have hT2 : total S ≤ 1000000000000 := by omega
    have hmu : ∀ w2, Below w.heap.size w w2 → ∀ n, Calls Tryz.prog 29 #[.pointer (some ⟨m, 0, none⟩)] (w2.drewN n) fun e w' => e = .returned (.int .i64 (total S)) ∧ w' = w2.drewN n :=
      fun w2 hB n => (mused_any (w2.drewN n) m d.room S F (HS.out.fresh (hB.trans ⟨rfl, rfl, rfl, Nat.le_refl _, fun _ _ => rfl⟩)) (by omega) hT2).mono fun _ _ h => ⟨h.1, h.2.symm⟩
    have hT3 := hT2
    obtain ⟨T, hT⟩ : ∃ T, total S = T := ⟨_, rfl⟩
    rw [hT] at hmu hT2 hus
    clear hT
    have HN := Lib.hid hname
    cases hx : isF S x
    · have hno := hs.none hx
      have happ : d.app x s = if 40 ≤ S.length then (4, d) else if d.room - T < s.size then (8, d) else (0, d.put x s) := by
        unfold Dk.app; rw [if_neg (by simp [hn]), hno, hleq, hus]
      have hput : ∀ f : Fl, f.name = x → Srt ⟨d.room, d.L ++ [f]⟩ (S.take (aheadF S x) ++ [f] ++ S.drop (aheadF S x)) := fun f hf => by
        have := hs.put (f := f) (by rw [hf]; exact hx)
        unfold insS at this
        rw [hf] at this
        exact this
      have HPUT := Lib.hid hput
      rw [hx] at hfind
      rw [happ]
      clear happ hput hx hS hs hno hleq hus ht hname hT3
      generalize aheadF S x = k at hal hfind HPUT ⊢
      have HF := Lib.hid hfind
      have HM := Lib.hid hmu
      clear hfind hmu
      by_cases h40 : 40 ≤ S.length
      · rw [if_pos h40]
        have h40' : (40 : Int) ≤ (S.length : Int) := by omega
        go_enter Tryz.func24, Tryz.ntmps24
        go_wp2_with fail
        refine HN.out.mono ?_
        rintro e w1 ⟨rfl, hB⟩
        have HB := Lib.hid hB
        clear hB
        go_wp2_with fail
        refine (HF.out w1 HB.out).mono ?_
        rintro e w2 ⟨rfl, hB2⟩
        have hB3 := HB.out.trans (hB2.mono HB.out.size)
        obtain ⟨v, h1⟩ := HS.out.fresh hB3
        obtain ⟨A, c, rfl, hc1, hc2⟩ := h1.row.shape_ (n := S.length) rfl
        unfold maxLen at hc2
        have c0 := h1.c0
        have HB3 := Lib.hid hB3
        clear hB2 hB3 h1
        go_wp2_with fail
        go_ret
        exact ⟨rfl, MOut.same ⟨S, HS.out, Hs.out⟩ HB3.out⟩
      · rw [if_neg h40]
        have h40' : ¬ (40 : Int) ≤ (S.length : Int) := by omega
        by_cases hr : d.room - T < s.size
        · rw [if_pos hr]
          have hd : decide (d.room < (T : Int) + (s.size : Int)) = true := by simp; omega
          have hw : IntKind.i64.wrap ((T : Int) + (s.size : Int)) = (T : Int) + (s.size : Int) := IntWalk.i64_in _ (by omega)
          have HW := Lib.hid hw
          clear hw
          go_enter Tryz.func24, Tryz.ntmps24
          go_wp2_with fail
          refine HN.out.mono ?_
          rintro e w1 ⟨rfl, hB⟩
          have HB := Lib.hid hB
          clear hB
          go_wp2_with fail
          refine (HF.out w1 HB.out).mono ?_
          rintro e w2 ⟨rfl, hB2⟩
          have hB3 := HB.out.trans (hB2.mono HB.out.size)
          obtain ⟨v, h1⟩ := HS.out.fresh hB3
          obtain ⟨A, c, rfl, hc1, hc2⟩ := h1.row.shape_ (n := S.length) rfl
          unfold maxLen at hc2
          have c0 := h1.c0
          have c1 := h1.c1
          have HB3 := Lib.hid hB3
          have HM2 := Lib.hid (HM.out w2 hB3)
          clear hB2 hB3 h1
          go_wp2_with fail
          have hw := HW.out
          go_quiet (exact (HM2.out _).mono fun _ _ h => ⟨h.1, _, h.2⟩)
          clear hw
          go_wp2_with fail
          go_ret
          exact ⟨rfl, MOut.same ⟨S, HS.out, Hs.out⟩ (HB3.out.trans ⟨rfl, rfl, rfl, Nat.le_refl _, fun _ _ => rfl⟩)⟩
        · rw [if_neg hr]
          have hd : decide (d.room < (T : Int) + (s.size : Int)) = false := by simp; omega
          have hw : IntKind.i64.wrap ((T : Int) + (s.size : Int)) = (T : Int) + (s.size : Int) := IntWalk.i64_in _ (by omega)
          have HW := Lib.hid hw
          clear hw
          go_enter Tryz.func24, Tryz.ntmps24
          go_wp2_with fail
          refine HN.out.mono ?_
          rintro e w1 ⟨rfl, hB⟩
          have HB := Lib.hid hB
          clear hB
          go_wp2_with fail
          refine (HF.out w1 HB.out).mono ?_
          rintro e w2 ⟨rfl, hB2⟩
          have hB3 := HB.out.trans (hB2.mono HB.out.size)
          obtain ⟨v, h1⟩ := HS.out.fresh hB3
          obtain ⟨A, c, rfl, hc1, hc2⟩ := h1.row.shape_ (n := S.length) rfl
          unfold maxLen at hc2
          have c0 := h1.c0
          have c1 := h1.c1
          have HB3 := Lib.hid hB3
          have HM2 := Lib.hid (HM.out w2 hB3)
          clear hB2 hB3 h1
          go_wp2_with fail
          have hw := HW.out
          go_quiet (exact (HM2.out _).mono fun _ _ h => ⟨h.1, _, h.2⟩)
          clear hw
          have hBW : Below w.heap.size w (w2.drewN nq) := HB3.out.trans ⟨rfl, rfl, rfl, Nat.le_refl _, fun _ _ => rfl⟩
          clear HM2 HM HF HN HB3 c0 c1 hc1 hc2
          revert hBW
          generalize w2.drewN nq = W
          intro hBW
          obtain ⟨v, h1⟩ := HS.out.fresh hBW
          obtain ⟨A, c, rfl, hc1, hc2⟩ := h1.row.shape_ (n := S.length) rfl
          unfold maxLen at hc2
          have c0 := h1.c0
          have hm := h1.lt _ h1.fm
          have HSl := Lib.hid (h1.row.sl elFl.len)
          have HBW := Lib.hid hBW
          have H1 := Lib.hid h1
          clear h1 hBW
          have hch : ∀ w : World, (Instr.slice 130 (.slice A S.length c) none (some (.int .i64 (k : Int))) none).run Tryz.prog w = .ok (.slice (cutA A c 0 3) k c) w := fun w => by
            simpa using run_cut_high (P := Tryz.prog) Tryz.underlying130 sizeFl A S.length c (k : Int) (by omega) (by omega) w
          have hcl : ∀ w : World, (Instr.slice 130 (.slice A S.length c) (some (.int .i64 (k : Int))) none none).run Tryz.prog w = .ok (.slice (cutA A c k 3) (S.length - k) (c - k)) w := fun w => by
            have := run_cut_low (P := Tryz.prog) Tryz.underlying130 sizeFl A S.length c (k : Int) (by omega) (by omega) w
            rwa [show (k : Int).toNat = k by omega] at this
          have tok : True := trivial
          go_wp2_with (first
            | (have hx2 := hown2
               at_builtin
               refine elFl.append _ (by rfl) (.tmp 56) (.tmp 62) (by rfl) W.heap.size _ (S.take k ++ [⟨x, ⟨#[]⟩, 0⟩]) (by rfl) hx2 _ _ (S.drop k) (by rfl) ((HSl.out.drop_ hal).fresh HBC.out) (by simp; omega) HBC.out.size ?_
               intro v4 w4 hown4 hg4 hat4
               obtain ⟨n4, hn4⟩ : ∃ n4, n4 = (S.take k ++ [(⟨x, ⟨#[]⟩, 0⟩ : Fl)] ++ S.drop k).length := ⟨_, rfl⟩
               obtain ⟨A4, c4, rfl, hcc, hcd⟩ := hown4.shape_ (n := n4) hn4.symm
               unfold maxLen at hcd
               have Hown4 := Lib.hid hown4
               have Hn4 := Lib.hid hn4
               clear hn4
               have hbd : Below W.heap.size W w4 := HBC.out.grown hg4 HBC.out.size (fun q hq => (hx2.lt q hq).1)
               have HBD := Lib.hid hbd
               have e0 := (hbd.cell (p := ⟨m, 0, none⟩) hm).trans c0
               have f0 : w4.frozen? ⟨m, 0, none⟩ = false := frozen_block (H1.out.fresh hbd).blk 0
               clear hown4 hown2 hx2 hbd d1)
            | (have hx1 := hown1
               have hbb : Below w2.heap.size w2 (w2.alloc (.cells #[.string x, .string ByteArray.empty, .int .i64 0] 141)) := (Below.refl _ w2).alloc (Nat.le_refl _) _
               have hq : Below W.heap.size W (w2.alloc (.cells #[.string x, .string ByteArray.empty, .int .i64 0] 141)) := HBA.out.trans (hbb.mono HBA.out.size)
               at_builtin
               refine elFl.append _ (by rfl) (.tmp 51) (.tmp 54) (by rfl) W.heap.size _ (S.take k) (by rfl) (hx1.fresh hbb) _ _ [⟨x, ⟨#[]⟩, 0⟩] (by rfl) (Sl.single (k := 3) (enc := filc) (x := (⟨x, ⟨#[]⟩, 0⟩ : Fl)) (heap_alloc_new w2 (.cells #[.string x, .string ByteArray.empty, .int .i64 0] 141)) rfl) (by simp; omega) hq.size ?_
               intro v2 w3 hown2 hg2 hat2
               have hbc : Below W.heap.size W w3 := hq.grown hg2 hq.size (fun q hq => (hx1.lt q hq).1)
               have HBC := Lib.hid hbc
               have d1 := (hbc.cell (p := ⟨m, 0, none⟩) hm).trans c0
               clear hown1 hx1 hbc hbb hq d0)
            | (have t := tok
               at_builtin
               refine elFl.append _ (by rfl) (.tmp 43) (.tmp 49) (by rfl) W.heap.size (.slice (some ⟨W.heap.size, 0, none⟩) 0 0) [] (by rfl) (Own.made W (Nat.le_refl _) _ _ _) _ _ (S.take k) (by rfl) ((HSl.out.take_ hal).fresh ((Below.refl _ _).alloc (Nat.le_refl _) _)) (by simp; omega) (by simp) ?_
               intro v1 w2 hown1 hg1 hat1
               rw [List.nil_append] at hown1
               have hba : Below W.heap.size W w2 := ((Below.refl _ W).alloc (Nat.le_refl _) _).grown hg1 (by simp) (fun q hq => by simp [Value.ownBlock] at hq; omega)
               have HBA := Lib.hid hba
               have d0 := (hba.cell (p := ⟨m, 0, none⟩) hm).trans c0
               clear tok t hba))
          have hn4 := Hn4.out
          clear Hn4
          subst hn4
          obtain ⟨q1, q2⟩ := H1.out.putI HS.out.lt (Keeps.of_fresh HBW.out F) HBD.out Hown4.out
          have hk5 : k < (S.take k ++ [(⟨x, ⟨#[]⟩, 0⟩ : Fl)] ++ S.drop k).length := by simp; omega
          have hs5 := fun f => ins_set hal hk5 f
          obtain ⟨hs5a, _⟩ := ins_set hal hk5 (⟨x, s, 0⟩ : Fl)
          clear hch hcl hm c0 e0 f0
          generalize hW5 : w4.setCell ⟨m, 0, none⟩ (.slice A4 (S.take k ++ [(⟨x, ⟨#[]⟩, 0⟩ : Fl)] ++ S.drop k).length c4) = W5 at q1 q2 ⊢
          generalize hS5 : S.take k ++ [(⟨x, ⟨#[]⟩, 0⟩ : Fl)] ++ S.drop k = S5 at q1 q2 hk5 hs5a hs5 ⊢
          have hsb : S5[k].bytes.size = 0 := by rw [hs5a]; rfl
          have H5 := Lib.hid q2
          have Q1 := Lib.hid q1
          have HS5 := Lib.hid hs5
          clear q1 q2 hs5 hs5a hW5 hS5 HBD Hown4 hc1 hc2 hcc
          obtain ⟨g, c6, cur, hv, hc61, hc62, hg⟩ := H5.out.head (by omega)
          injection hv with hv1 hv2 hv3
          subst hv1 hv3
          unfold maxLen at hc62
          have c0 := H5.out.c0
          obtain ⟨b, o, e, _, _, hxx⟩ := (H5.out.row.sl elFl.len).cell_ hk5
          injection e with e
          injection e with e1 e2 _
          subst e1 e2
          have x1 := hxx 1 _ rfl
          simp only [Nat.zero_add] at x1
          have f1 : W5.frozen? ⟨g, k * 3 + 1, none⟩ = false := frozen_block hg _
          have hk0 : (0 : Int) ≤ (k : Int) := by omega
          have hk1 : (k : Int) < (S5.length : Int) := by omega
          have HLB := Lib.hid hsb
          have hcat : ¬ 9223372036854775807 < S5[k].bytes.size + s.size := by omega
          clear hxx hg hsb
          go_still_tail 17, (by kernel_rfl)
          change wpList _ _ _ _ _ W5.drew
          go_wp2_with fail
          go_ret
          have H6 := H5.out.fresh (show Below W5.heap.size W5 W5.drew from ⟨rfl, rfl, rfl, Nat.le_refl _, fun _ _ => rfl⟩)
          obtain ⟨z1, z2⟩ := H6.set H5.out.lt (Keeps.drew (Keeps.refl _ W5)) hk5 (j := 1) (by decide) (x := growF s S5[k]) (u := .string (S5[k].bytes ++ s)) rfl
          have ze := (HS5.out (growF s S5[k])).2
          have z0 : growF s S5[k] = ⟨x, s, 0⟩ := by rw [(HS5.out ⟨x, s, 0⟩).1]; exact congrArg (fun b => (⟨x, b, 0⟩ : Fl)) (ByteArray.empty_append)
          rw [ze, z0] at z2
          refine ⟨rfl, Q1.out.andThen z1 (fun i hi e => e.elim id (fun e => absurd hi (by omega))), _, ?_, HPUT.out ⟨x, s, 0⟩ rfl⟩
          have zs1 := Q1.out.size
          have zs2 : W5.heap.size ≤ (W5.drew.setCell ⟨g, k * 3 + 1, none⟩ (.string (S5[k].bytes ++ s))).heap.size := z1.size
          refine MdAt.widen (w := W5.drew.setCell ⟨g, k * 3 + 1, none⟩ (.string (S5[k].bytes ++ s))) z2 (fun b hb => ?_) (fun b hb => ?_)
          · rcases hb with (hb | hb) | hb
            · exact Or.inl hb
            · exact Or.inr ⟨hb.1, Nat.lt_of_lt_of_le hb.2 zs2⟩
            · exact Or.inr ⟨Nat.le_trans zs1 hb.1, hb.2⟩
          · rcases hb with hb | hb
            · exact Nat.lt_of_lt_of_le (HS.out.lt b hb) (Nat.le_trans zs1 zs2)
            · exact hb.2
    · obtain ⟨hk, hkn⟩ := isF_yes hx
      have hso := hs.some hx (f := S[aheadF S x]) (fun _ => rfl)
      have hset := setS_eq hs.rise hx (g := growF s) (f := growF s S[aheadF S x]) (fun _ => rfl)
      have HSET := Lib.hid hset
      have hsb : S[aheadF S x].bytes.size ≤ 1000000000000 := Nat.le_trans (total_mem (List.getElem_mem hk)) hT3
      have happ : d.app x s = if d.room - T < s.size then (8, d) else (0, d.grow x s) := by
        unfold Dk.app; rw [if_neg (by simp [hn]), hso, hus]
      rw [hx] at hfind
      rw [happ]
      clear happ hset hso hx hS hs hleq hus ht hname hkn hT3
      generalize aheadF S x = k at hk hal hfind HSET hsb ⊢
      have HF := Lib.hid hfind
      have HM := Lib.hid hmu
      clear hfind hmu
      by_cases hr : d.room - T < s.size
      · rw [if_pos hr]
        have hd : decide (d.room < (T : Int) + (s.size : Int)) = true := by simp; omega
        have hw : IntKind.i64.wrap ((T : Int) + (s.size : Int)) = (T : Int) + (s.size : Int) := IntWalk.i64_in _ (by omega)
        have HW := Lib.hid hw
        clear hw
        go_enter Tryz.func24, Tryz.ntmps24
        go_wp2_with fail
        refine HN.out.mono ?_
        rintro e w1 ⟨rfl, hB⟩
        have HB := Lib.hid hB
        clear hB
        go_wp2_with fail
        refine (HF.out w1 HB.out).mono ?_
        rintro e w2 ⟨rfl, hB2⟩
        have hB3 := HB.out.trans (hB2.mono HB.out.size)
        obtain ⟨v, h1⟩ := HS.out.fresh hB3
        obtain ⟨A, c, rfl, hc1, hc2⟩ := h1.row.shape_ (n := S.length) rfl
        unfold maxLen at hc2
        have c0 := h1.c0
        have c1 := h1.c1
        have HB3 := Lib.hid hB3
        have HM2 := Lib.hid (HM.out w2 hB3)
        clear hB2 hB3 h1
        go_wp2_with fail
        have hw := HW.out
        go_quiet (exact (HM2.out _).mono fun _ _ h => ⟨h.1, _, h.2⟩)
        clear hw
        go_wp2_with fail
        go_ret
        exact ⟨rfl, MOut.same ⟨S, HS.out, Hs.out⟩ (HB3.out.trans ⟨rfl, rfl, rfl, Nat.le_refl _, fun _ _ => rfl⟩)⟩
      · rw [if_neg hr]
        have hd : decide (d.room < (T : Int) + (s.size : Int)) = false := by simp; omega
        have hw : IntKind.i64.wrap ((T : Int) + (s.size : Int)) = (T : Int) + (s.size : Int) := IntWalk.i64_in _ (by omega)
        have HW := Lib.hid hw
        clear hw
        go_enter Tryz.func24, Tryz.ntmps24
        go_wp2_with fail
        refine HN.out.mono ?_
        rintro e w1 ⟨rfl, hB⟩
        have HB := Lib.hid hB
        clear hB
        go_wp2_with fail
        refine (HF.out w1 HB.out).mono ?_
        rintro e w2 ⟨rfl, hB2⟩
        have hB3 := HB.out.trans (hB2.mono HB.out.size)
        obtain ⟨v, h1⟩ := HS.out.fresh hB3
        obtain ⟨A, c, rfl, hc1, hc2⟩ := h1.row.shape_ (n := S.length) rfl
        unfold maxLen at hc2
        have c0 := h1.c0
        have c1 := h1.c1
        have HB3 := Lib.hid hB3
        have HM2 := Lib.hid (HM.out w2 hB3)
        clear hB2 hB3 h1
        go_wp2_with fail
        have hw := HW.out
        go_quiet (exact (HM2.out _).mono fun _ _ h => ⟨h.1, _, h.2⟩)
        clear hw
        have hBW : Below w.heap.size w (w2.drewN nq) := HB3.out.trans ⟨rfl, rfl, rfl, Nat.le_refl _, fun _ _ => rfl⟩
        clear HM2 HM HF HN HB3 c0 c1 hc1 hc2
        revert hBW
        generalize w2.drewN nq = W
        intro hBW
        obtain ⟨v, h1⟩ := HS.out.fresh hBW
        obtain ⟨A5, c5, rfl, hc1, hc2⟩ := h1.row.shape_ (n := S.length) rfl
        have H5 := Lib.hid h1
        have HBW := Lib.hid hBW
        have hk5 : k < S.length := hk
        clear h1 hBW hc1 hc2
        go_wp2_with fail
        obtain ⟨g, c6, cur, hv, hc61, hc62, hg⟩ := H5.out.head (by omega)
        injection hv with hv1 hv2 hv3
        subst hv1 hv3
        unfold maxLen at hc62
        have c0 := H5.out.c0
        obtain ⟨b, o, e, _, _, hxx⟩ := (H5.out.row.sl elFl.len).cell_ hk5
        injection e with e
        injection e with e1 e2 _
        subst e1 e2
        have x1 := hxx 1 _ rfl
        simp only [Nat.zero_add] at x1
        have f1 : W.frozen? ⟨g, k * 3 + 1, none⟩ = false := frozen_block hg _
        have hk0 : (0 : Int) ≤ (k : Int) := by omega
        have hk1 : (k : Int) < (S.length : Int) := by omega
        have HLB := Lib.hid hsb
        have hcat : ¬ 9223372036854775807 < S[k].bytes.size + s.size := by omega
        clear hxx hg hsb
        go_still_tail 17, (by kernel_rfl)
        change wpList _ _ _ _ _ W.drew
        go_wp2_with fail
        go_ret
        have H6 := H5.out.fresh (show Below W.heap.size W W.drew from ⟨rfl, rfl, rfl, Nat.le_refl _, fun _ _ => rfl⟩)
        obtain ⟨z1, z2⟩ := H6.set HS.out.lt (((Keeps.of_fresh HBW.out F)).drew) hk5 (j := 1) (by decide) (x := growF s S[k]) (u := .string (S[k].bytes ++ s)) rfl
        refine ⟨rfl, z1, updL x (growF s) S, ?_, Hs.out.upd x (fun _ => rfl)⟩
        rw [← HSET.out]
        exact z2
  · have hn' : nameB x = false := by simpa using hn
    have happ : d.app x s = (1, d) := by unfold Dk.app; rw [if_pos hn']
    rw [hn'] at hname
    rw [happ]
    have HN := Lib.hid hname
    clear hname happ hS hs
    go_enter Tryz.func24, Tryz.ntmps24
    go_wp2_with fail
    refine HN.out.mono ?_
    rintro e w1 ⟨rfl, hB⟩
    have HB := Lib.hid hB
    clear hB
    go_wp2_with fail
    go_ret
    exact ⟨rfl, MOut.same ⟨S, HS.out, Hs.out⟩ HB.out⟩
end Go.Proofs.YthebmbhdlkldiaaGreatDoor.Dsk

/- The document's disk: Rename. Under the stated premises on sizes. -/
namespace Go.Proofs.YthebmbhdlkldiaaGreatDoor.Dsk
open Go.RowKit Go.Bl
attribute [local go_sem ↓] Go.wp_at_zero Go.wp_at_succ

theorem Srt.ren' {d : Dk} {S S6 : List Fl} (h : Srt d S) {x y : ByteArray} (hx : isF S x = true) (hy : nameB y = true) {f : Fl} (hf : ∀ hk : aheadF S x < S.length, f = S[aheadF S x]) (h6 : Srt ((d.del x).del y) S6) :
    isF S6 y = false ∧ (d.ren x y).1 = 0 ∧ (d.ren x y).2.room = d.room ∧ Srt (d.ren x y).2 (insS S6 { f with name := y }) := by
  have h0 : isF S6 y = false := by
    cases hi : isF S6 y
    · rfl
    · obtain ⟨hk, he⟩ := isF_yes hi
      have := (List.mem_filter.1 (h6.perm.mem_iff.1 (List.getElem_mem hk))).2
      simp only [decide_eq_true_eq] at this
      exact absurd he this
  obtain ⟨h1, h2⟩ := h.ren hx hy hf
  have hr : (d.ren x y).2.room = d.room := by
    unfold Dk.ren
    split
    · rfl
    · split
      · rfl
      · split <;> rfl
  refine ⟨h0, h1, hr, ?_, insS_rise h6.rise h0⟩
  refine (insS_perm _ _).trans (List.Perm.trans ?_ ((insS_perm _ _).symm.trans h2.perm))
  refine List.Perm.append_right _ (h6.perm.trans ?_)
  exact ((h.perm.filter _).filter _).symm

set_option maxRecDepth 8000 in
set_option maxHeartbeats 4000000 in
theorem mrename_any (w : World) (m : Nat) (d : Dk) (F : Nat → Prop) (h : MdD w m d F) (hl : d.L.length ≤ 1000) (x y : ByteArray) (hy1 : y.size ≤ 1000000) :
    Calls Tryz.prog 75 #[.pointer (some ⟨m, 0, none⟩), .string x, .string y] w fun e w' => e = .returned (.int .i64 (d.ren x y).1) ∧ MOut w w' m (d.ren x y).2 F := by
  obtain ⟨S, hS, hs⟩ := h
  have hlen : S.length ≤ 1000 := by rw [hs.perm.length_eq]; exact hl
  have hfind := find_any w m d.room S F hS x (by omega)
  have HS := Lib.hid hS
  have Hs := Lib.hid hs
  cases hx : isF S x
  · have hn := hs.none hx
    rw [hx] at hfind
    have hren : d.ren x y = (6, d) := by unfold Dk.ren; rw [hn]
    rw [hren]
    have HF := Lib.hid hfind
    clear hfind hx hS hs hn hren
    go_enter Tryz.func75, Tryz.ntmps75
    go_wp2_with fail
    refine HF.out.mono ?_
    rintro e w1 ⟨rfl, hB⟩
    go_wp2_with fail
    go_ret
    exact ⟨rfl, MOut.same ⟨S, HS.out, Hs.out⟩ hB⟩
  · obtain ⟨hk, hkn⟩ := isF_yes hx
    have hso := hs.some hx (f := S[aheadF S x]) (fun _ => rfl)
    by_cases hn : nameB y = true
    · have hren : ∀ S6, Srt ((d.del x).del y) S6 → isF S6 y = false ∧ (d.ren x y).1 = 0 ∧ (d.ren x y).2.room = d.room ∧ Srt (d.ren x y).2 (insS S6 ⟨y, S[aheadF S x].bytes, S[aheadF S x].syn⟩) := fun S6 h6 => hs.ren' hx hn (f := S[aheadF S x]) (fun _ => rfl) h6
      have HREN := Lib.hid hren
      rw [hx] at hfind
      clear hren hso hkn hx hS hs
      generalize aheadF S x = k0 at hk hfind HREN ⊢
      have HF := Lib.hid hfind
      have HN : Hid (∀ w1, Calls Tryz.prog 77 #[.string y] w1 fun e w' => e = .returned (.bool (nameB y)) ∧ Below w1.heap.size w1 w') := Lib.hid (fun w1 => rname_any w1 y (by omega))
      rw [hn] at HN
      clear hfind
      go_enter Tryz.func75, Tryz.ntmps75
      go_wp2_with fail
      refine HF.out.mono ?_
      rintro e w1 ⟨rfl, hB⟩
      have HB := Lib.hid hB
      clear hB
      go_wp2_with fail
      refine (HN.out w1).mono ?_
      rintro e w2 ⟨rfl, hB2⟩
      have hB3 := HB.out.trans (hB2.mono HB.out.size)
      obtain ⟨v, h1⟩ := HS.out.fresh hB3
      obtain ⟨g, c, cur, rfl, hc1, hc2, hg⟩ := h1.head (by omega)
      unfold maxLen at hc2
      have c0 := h1.c0
      obtain ⟨b, o, e, _, _, hxx⟩ := (h1.row.sl elFl.len).cell_ hk
      injection e with e
      injection e with e1 e2 _
      subst e1 e2
      have x0 := hxx 0 _ rfl
      have x1 := hxx 1 _ rfl
      have x2 := hxx 2 _ rfl
      simp only [Nat.zero_add, Nat.add_zero] at x0 x1 x2
      have HB3 := Lib.hid hB3
      have H1 : Hid (MdD w2 m d F) := Lib.hid ⟨S, ⟨_, h1⟩, Hs.out⟩
      clear hB2 hB3 h1 hxx hg HB
      go_wp2_with fail
      obtain ⟨B, hB⟩ : ∃ B, S[k0].bytes = B := ⟨_, rfl⟩
      obtain ⟨N, hN⟩ : ∃ N, S[k0].syn = N := ⟨_, rfl⟩
      obtain ⟨Y, hY⟩ : ∃ Y, S[k0].name = Y := ⟨_, rfl⟩
      rw [hB, hN] at HREN
      rw [hB, hN, hY]
      have hblk := heap_alloc_new w2 (.cells #[.string Y, .string B, .int .i64 N] 141)
      have hbW : Below w2.heap.size w2 (w2.alloc (.cells #[.string Y, .string B, .int .i64 N] 141)) := (Below.refl _ w2).alloc (Nat.le_refl _) _
      have hlw := H1.out.lt
      have hsz2 := HB3.out.size
      obtain ⟨q, hq⟩ : ∃ q, w2.heap.size = q := ⟨_, rfl⟩
      rw [hq] at hblk hlw hsz2 ⊢
      have HBW := Lib.hid hbW
      clear hbW c0 x0 x1 x2 hB hN hY
      generalize w2.alloc (.cells #[.string Y, .string B, .int .i64 N] 141) = w3 at hblk HBW ⊢
      have hq3 := (Array.getElem?_eq_some_iff.1 hblk).1
      have H3 : MdD w3 m d F := H1.out.fresh HBW.out
      have hFq : ¬ F q := fun e => Nat.lt_irrefl _ (hlw q e)
      refine (mdelete_any w3 m d F H3 hl x).mono ?_
      rintro e w4 ⟨rfl, hk4, hd4⟩
      generalize (if d.find x = none then (6 : Int) else 0) = r4
      have hblk4 := hk4.grownTo hblk hFq
      have HK4 := Lib.hid hk4
      have HD4 := Lib.hid hd4
      have HBL := Lib.hid hblk4
      clear hk4 hd4 hblk hblk4
      go_wp2_with fail
      refine (mdelete_any w4 m (d.del x) _ HD4.out (Nat.le_trans (List.length_filter_le _ _) hl) y).mono ?_
      rintro e w5 ⟨rfl, hk5, hd5⟩
      generalize (if (d.del x).find y = none then (6 : Int) else 0) = r5
      have hblk5 := hk5.grownTo HBL.out (fun e => e.elim hFq (fun e => by omega))
      have f0 : w5.frozen? ⟨q, 0, none⟩ = false := frozen_block hblk5 0
      have b0 : w5.cell? ⟨q, 0, none⟩ = some (.string Y) := cell_of_row w5 q 0 _ _ _ hblk5
      have HK5 := Lib.hid hk5
      have HD5 := Lib.hid hd5
      have HBL5 := Lib.hid hblk5
      clear hk5 hd5 hblk5
      go_wp2_with fail
      have hk6 : Keeps (fun k => k = q) w5 (w5.setCell ⟨q, 0, none⟩ (.string y)) := Keeps.one w5 q 0 (.string y)
      have hblk6 := setCell_block (o := 0) HBL5.out (.string y)
      generalize w5.setCell ⟨q, 0, none⟩ (.string y) = w6 at hk6 hblk6 ⊢
      obtain ⟨S6, h6, hs6⟩ := HD5.out
      have h6 := h6.keep hk6 (fun k hk e => by
        subst e
        have z3 := HK4.out.size
        rcases hk with (hk | hk) | hk
        · exact hFq hk
        · omega
        · omega)
      obtain ⟨hno, hr0, hrm, hsrt⟩ := HREN.out S6 hs6
      have hS6 : S6.length ≤ 1000 := by
        rw [hs6.perm.length_eq]
        exact Nat.le_trans (List.length_filter_le _ _) (Nat.le_trans (List.length_filter_le _ _) hl)
      have hf6 := find_any w6 m d.room S6 _ h6 y (by omega)
      rw [hno] at hf6
      unfold insS at hsrt
      have hal := aheadF_le S6 y
      have HSRT := Lib.hid hsrt
      have HR0 := Lib.hid hr0
      have HRM := Lib.hid hrm
      have H6 := Lib.hid h6
      have HBL6 := Lib.hid hblk6
      have HK6 := Lib.hid hk6
      clear hsrt hno hr0 hrm h6 hs6 b0 f0 hblk6 hk6
      change Hid (Srt _ (S6.take (aheadF S6 y) ++ [(⟨y, B, N⟩ : Fl)] ++ S6.drop (aheadF S6 y))) at HSRT
      generalize aheadF S6 y = k at hf6 hal HSRT
      refine hf6.mono ?_
      clear hf6
      rintro e W ⟨rfl, hB7⟩
      have h7 := H6.out.fresh hB7
      have y0 : W.cell? ⟨q, 0, none⟩ = some (.string y) := cell_of_row W q 0 _ _ _ ((Keeps.of_fresh hB7 fun _ => False).grownTo HBL6.out id)
      have y1 : W.cell? ⟨q, 1, none⟩ = some (.string B) := cell_of_row W q 1 _ _ _ ((Keeps.of_fresh hB7 fun _ => False).grownTo HBL6.out id)
      have y2 : W.cell? ⟨q, 2, none⟩ = some (.int .i64 N) := cell_of_row W q 2 _ _ _ ((Keeps.of_fresh hB7 fun _ => False).grownTo HBL6.out id)
      have hqW : q < W.heap.size := by
        have := HK4.out.size
        have := HK5.out.size
        have := HK6.out.size
        have := hB7.size
        omega
      obtain ⟨v, h1⟩ := h7
      obtain ⟨A, c, rfl, hc1, hc2⟩ := h1.row.shape_ (n := S6.length) rfl
      unfold maxLen at hc2
      have c0 := h1.c0
      have hm := h1.lt _ h1.fm
      have HSl := Lib.hid (h1.row.sl elFl.len)
      have HB7 := Lib.hid hB7
      have H7 := Lib.hid h1
      clear h1 hB7
      have hch : ∀ w : World, (Instr.slice 130 (.slice A S6.length c) none (some (.int .i64 (k : Int))) none).run Tryz.prog w = .ok (.slice (cutA A c 0 3) k c) w := fun w => by
        simpa using run_cut_high (P := Tryz.prog) Tryz.underlying130 sizeFl A S6.length c (k : Int) (by omega) (by omega) w
      have hcl : ∀ w : World, (Instr.slice 130 (.slice A S6.length c) (some (.int .i64 (k : Int))) none none).run Tryz.prog w = .ok (.slice (cutA A c k 3) (S6.length - k) (c - k)) w := fun w => by
        have := run_cut_low (P := Tryz.prog) Tryz.underlying130 sizeFl A S6.length c (k : Int) (by omega) (by omega) w
        rwa [show (k : Int).toNat = k by omega] at this
      have tok : True := trivial
      go_wp2_with (first
        | (have hx2 := hown2
           at_builtin
           refine elFl.append _ (by rfl) (.tmp 57) (.tmp 63) (by rfl) W.heap.size _ (S6.take k ++ [⟨y, B, N⟩]) (by rfl) hx2 _ _ (S6.drop k) (by rfl) ((HSl.out.drop_ hal).fresh HBC.out) (by simp; omega) HBC.out.size ?_
           intro v4 w9 hown4 hg4 hat4
           obtain ⟨n4, hn4⟩ : ∃ n4, n4 = (S6.take k ++ [(⟨y, B, N⟩ : Fl)] ++ S6.drop k).length := ⟨_, rfl⟩
           obtain ⟨A4, c4, rfl, hcc, hcd⟩ := hown4.shape_ (n := n4) hn4.symm
           unfold maxLen at hcd
           have Hown4 := Lib.hid hown4
           have Hn4 := Lib.hid hn4
           clear hn4
           have hbd : Below W.heap.size W w9 := HBC.out.grown hg4 HBC.out.size (fun q hq => (hx2.lt q hq).1)
           have HBD := Lib.hid hbd
           have e0 := (hbd.cell (p := ⟨m, 0, none⟩) hm).trans c0
           have f0 : w9.frozen? ⟨m, 0, none⟩ = false := frozen_block (H7.out.fresh hbd).blk 0
           clear hown4 hown2 hx2 hbd d1)
        | (have hx1 := hown1
           have hbb : Below w7.heap.size w7 (w7.alloc (.cells #[.string y, .string B, .int .i64 N] 141)) := (Below.refl _ w7).alloc (Nat.le_refl _) _
           have hq : Below W.heap.size W (w7.alloc (.cells #[.string y, .string B, .int .i64 N] 141)) := HBA.out.trans (hbb.mono HBA.out.size)
           at_builtin
           refine elFl.append _ (by rfl) (.tmp 53) (.tmp 55) (by rfl) W.heap.size _ (S6.take k) (by rfl) (hx1.fresh hbb) _ _ [⟨y, B, N⟩] (by rfl) (Sl.single (k := 3) (enc := filc) (x := (⟨y, B, N⟩ : Fl)) (heap_alloc_new w7 (.cells #[.string y, .string B, .int .i64 N] 141)) rfl) (by simp; omega) hq.size ?_
           intro v2 w8 hown2 hg2 hat2
           have hbc : Below W.heap.size W w8 := hq.grown hg2 hq.size (fun q hq => (hx1.lt q hq).1)
           have HBC := Lib.hid hbc
           have d1 := (hbc.cell (p := ⟨m, 0, none⟩) hm).trans c0
           clear hown1 hx1 hbc hbb hq d0 u0 u1 u2)
        | (have t := tok
           at_builtin
           refine elFl.append _ (by rfl) (.tmp 45) (.tmp 51) (by rfl) W.heap.size (.slice (some ⟨W.heap.size, 0, none⟩) 0 0) [] (by rfl) (Own.made W (Nat.le_refl _) _ _ _) _ _ (S6.take k) (by rfl) ((HSl.out.take_ hal).fresh ((Below.refl _ _).alloc (Nat.le_refl _) _)) (by simp; omega) (by simp) ?_
           intro v1 w7 hown1 hg1 hat1
           rw [List.nil_append] at hown1
           have hba : Below W.heap.size W w7 := ((Below.refl _ W).alloc (Nat.le_refl _) _).grown hg1 (by simp) (fun q hq => by simp [Value.ownBlock] at hq; omega)
           have HBA := Lib.hid hba
           have d0 := (hba.cell (p := ⟨m, 0, none⟩) hm).trans c0
           have u0 := (hba.cell (p := ⟨q, 0, none⟩) hqW).trans y0
           have u1 := (hba.cell (p := ⟨q, 1, none⟩) hqW).trans y1
           have u2 := (hba.cell (p := ⟨q, 2, none⟩) hqW).trans y2
           clear tok t hba))
      have hn4 := Hn4.out
      clear Hn4
      subst hn4
      go_ret
      obtain ⟨q1, q2⟩ := H7.out.putI H7.out.lt (Keeps.refl _ W) HBD.out Hown4.out
      have zsz := q1.size
      have z4 := HK4.out.size
      have z5 := HK5.out.size
      have z6 := HK6.out.size
      have z7 := HB7.out.size
      have z3 := HBW.out.size
      have hK : Keeps F w (w9.setCell ⟨m, 0, none⟩ (.slice A4 (S6.take k ++ [(⟨y, B, N⟩ : Fl)] ++ S6.drop k).length c4)) :=
        ((((((Keeps.of_fresh HB3.out F).fresh HBW.out).andThen HK4.out (fun _ _ e => e)).andThen HK5.out (fun i hi e => e.elim id (fun e => by omega))).andThen HK6.out (fun i hi e => by omega)).fresh HB7.out).andThen q1
          (fun i hi e => by rcases e with (e | e) | e; exact e; omega; omega)
      refine ⟨by rw [HR0.out]; rfl, hK, _, ?_, HSRT.out⟩
      rw [HRM.out]
      refine MdAt.widen ⟨_, q2⟩ (fun b hb => ?_) (fun b hb => ?_)
      · rcases hb with ((hb | hb) | hb) | hb
        · exact Or.inl hb
        · exact Or.inr ⟨by omega, by omega⟩
        · exact Or.inr ⟨by omega, by omega⟩
        · exact Or.inr ⟨by omega, hb.2⟩
      · rcases hb with hb | hb
        · exact Nat.lt_of_lt_of_le (HS.out.lt b hb) hK.size
        · exact hb.2
    · have hn' : nameB y = false := by simpa using hn
      have hren : d.ren x y = (1, d) := by unfold Dk.ren; rw [hso]; exact if_pos hn'
      rw [hx] at hfind
      rw [hren]
      have HF := Lib.hid hfind
      have HN : Hid (∀ w1, Calls Tryz.prog 77 #[.string y] w1 fun e w' => e = .returned (.bool (nameB y)) ∧ Below w1.heap.size w1 w') := Lib.hid (fun w1 => rname_any w1 y (by omega))
      rw [hn'] at HN
      clear hfind hren hso hx hkn hS hs
      go_enter Tryz.func75, Tryz.ntmps75
      go_wp2_with fail
      refine HF.out.mono ?_
      rintro e w1 ⟨rfl, hB⟩
      have HB := Lib.hid hB
      clear hB
      go_wp2_with fail
      refine (HN.out w1).mono ?_
      rintro e w2 ⟨rfl, hB2⟩
      have HB2 := Lib.hid hB2
      clear hB2
      go_wp2_with fail
      go_ret
      exact ⟨rfl, MOut.same ⟨S, HS.out, Hs.out⟩ (HB.out.trans (HB2.out.mono HB.out.size))⟩
end Go.Proofs.YthebmbhdlkldiaaGreatDoor.Dsk

namespace Go.Proofs.YthebmbhdlkldiaaGreatDoor.Dsk
open Go.RowKit Go.Bl
attribute [local go_sem ↓] Go.wp_at_zero Go.wp_at_succ

theorem MdIn.setI {w1 : World} {m g n c : Nat} {room : Int} {S : List Fl} {F : Nat → Prop} (h : MdIn w1 m room S F (.slice (some ⟨g, 0, none⟩) n c)) {i : Nat} (hi : i < S.length) {j : Nat} (hj : j < 3) {x : Fl} {u : Value} (hx : filc x = (filc S[i]).set j u) :
    MdIn (w1.setCell ⟨g, i * 3 + j, none⟩ u) m room (S.set i x) F (.slice (some ⟨g, 0, none⟩) n c) ∧ Keeps F w1 (w1.setCell ⟨g, i * 3 + j, none⟩ u) := by
  have hg : F g := h.fv g rfl
  have hgm : g ≠ m := fun e => h.vp (by rw [← e]; rfl)
  have hks : Keeps (fun q => q = g) w1 (w1.setCell ⟨g, i * 3 + j, none⟩ u) := (Keeps.refl (fun q => q = g) w1).setCell (p := ⟨g, i * 3 + j, none⟩) (fun _ => rfl) u
  exact ⟨⟨hks.grownTo h.blk (fun e => hgm e.symm), h.row.set elFl.len hi hj hx, h.fm, h.fv, fun k hk => Nat.lt_of_lt_of_le (h.lt k hk) hks.size⟩, hks.mono (fun q _ e => e ▸ hg)⟩
theorem MdIn.drew {w : World} {m : Nat} {room : Int} {S : List Fl} {F : Nat → Prop} {v : Value} (h : MdIn w m room S F v) : MdIn w.drew m room S F v := h.fresh ⟨rfl, rfl, rfl, Nat.le_refl _, fun _ _ => rfl⟩
theorem MdIn.row3 {w1 : World} {m g n c : Nat} {room : Int} {S : List Fl} {F : Nat → Prop} (h : MdIn w1 m room S F (.slice (some ⟨g, 0, none⟩) n c)) {i : Nat} (hi : i < S.length) (x : Fl) :
    MdIn (((w1.setCell ⟨g, i * 3, none⟩ (.string x.name)).setCell ⟨g, i * 3 + 1, none⟩ (.string x.bytes)).setCell ⟨g, i * 3 + 2, none⟩ (.int .i64 x.syn)) m room (S.set i x) F (.slice (some ⟨g, 0, none⟩) n c) ∧
      Keeps F w1 (((w1.setCell ⟨g, i * 3, none⟩ (.string x.name)).setCell ⟨g, i * 3 + 1, none⟩ (.string x.bytes)).setCell ⟨g, i * 3 + 2, none⟩ (.int .i64 x.syn)) := by
  obtain ⟨h1, k1⟩ := h.setI hi (j := 0) (by decide) (x := ⟨x.name, S[i].bytes, S[i].syn⟩) (u := .string x.name) rfl
  obtain ⟨h2, k2⟩ := h1.setI (i := i) (by simpa using hi) (j := 1) (by decide) (x := ⟨x.name, x.bytes, S[i].syn⟩) (u := .string x.bytes) (by rw [List.getElem_set_self]; rfl)
  obtain ⟨h3, k3⟩ := h2.setI (i := i) (by simpa using hi) (j := 2) (by decide) (x := x) (u := .int .i64 x.syn) (by rw [List.getElem_set_self]; rfl)
  rw [List.set_set, List.set_set] at h3
  exact ⟨h3, (k1.trans k2).trans k3⟩
set_option maxRecDepth 8000 in
set_option maxHeartbeats 4000000 in
theorem mcrash_any (w : World) (m : Nat) (d : Dk) (F G : Nat → Prop) (h : MdD w m d F) (hl : d.L.length ≤ 1000) (hok : ∀ f ∈ d.L, 0 ≤ f.syn ∧ f.syn ≤ f.bytes.size ∧ f.bytes.size ≤ 1073741824) (kv : Value) (keep : List Int) (hkv : Sl w G 1 intc kv keep) (hG : ∀ k, G k → ¬ F k) :
    Calls Tryz.prog 26 #[.pointer (some ⟨m, 0, none⟩), kv] w fun e w' => e = .returned (.tuple #[]) ∧ ∃ ks, Names d.L ks ∧ MOut w w' m ⟨d.room, crashN keep ks d.L ks.length⟩ F := by
  obtain ⟨S, ⟨v, hS⟩, hs⟩ := h
  obtain ⟨A, c, rfl, hA1, hA2⟩ := hkv.shape
  unfold maxLen at hA2
  have hlen : S.length ≤ 1000 := by rw [hs.perm.length_eq]; exact hl
  have hokS : ∀ f ∈ S, 0 ≤ f.syn ∧ f.syn ≤ f.bytes.size ∧ f.bytes.size ≤ 1073741824 := fun f hf => hok f (hs.perm.mem_iff.1 hf)
  obtain ⟨Av, cv, rfl, hc1, hc2⟩ := hS.row.shape_ (n := S.length) rfl
  unfold maxLen at hc2
  have hmx := @run_gmax Tryz.prog
  have hmn := @run_gmin Tryz.prog
  have hmm : ∀ a b : Int, gmax a b = gmax b a := fun a b => by unfold gmax; omega
  have HMM := Lib.hid hmm
  have HS := Lib.hid hS
  have HK := Lib.hid hkv
  have HOK := Lib.hid hokS
  have Hs := Lib.hid hs
  have HG := Lib.hid hG
  clear hS hkv hokS hok hs hmm hG
  go_enter Tryz.func26, Tryz.ntmps26
  go_wp2_with fail
  go_loopw [4, 5, 6] (fun i _ _ wr => ∃ k : Nat, k ≤ S.length ∧ i = .int .i64 k ∧ MdIn wr m d.room (crashN keep (S.map Fl.name) S k) F (.slice Av S.length cv) ∧ Keeps F w wr) (fun i _ _ _ => S.length - (RowKit.intOf i).toNat)
  case atStart => exact ⟨0, Nat.zero_le _, rfl, HS.out, Keeps.refl _ _⟩
  case round =>
    obtain ⟨k, hk, rfl, hI, hkw⟩ := hrel
    have c0 := hI.c0
    have HKW := Lib.hid hkw
    by_cases hlt : k < S.length
    · have hCl := crash_len keep (S.map Fl.name) S k
      have hat := crash_at keep Hs.out.rise k k (Nat.le_refl _) hlt
      have hcs := crash_set keep Hs.out.rise hlt
      obtain ⟨f, hf⟩ : ∃ f, S[k] = f := ⟨_, rfl⟩
      obtain ⟨hy1, hy2, hy3⟩ := HOK.out S[k] (List.getElem_mem hlt)
      rw [hf] at hat hcs hy1 hy2 hy3
      generalize crashN keep (S.map Fl.name) S k = C at hI hCl hat hcs
      obtain ⟨hkC, hCk⟩ := List.getElem?_eq_some_iff.1 hat
      obtain ⟨g, c3, cur, hv, hc3, hc4, hg⟩ := hI.head (by omega)
      injection hv with hv1 hv2 hv3
      subst hv1 hv3
      obtain ⟨b, o, e, _, _, hxx⟩ := (hI.row.sl elFl.len).cell_ hkC
      injection e with e
      injection e with e1 e2 _
      subst e1 e2
      rw [hCk] at hxx
      have x0 := hxx 0 _ rfl
      have x1 := hxx 1 _ rfl
      have x2 := hxx 2 _ rfl
      simp only [Nat.zero_add, Nat.add_zero] at x0 x1 x2
      have hk0 : (0 : Int) ≤ (k : Int) := by omega
      have hk1 : (k : Int) < (S.length : Int) := by omega
      have hn0 := keepOf_nonneg keep k
      have hKb := cutK_in hn0 ⟨hy1, hy2⟩
      obtain ⟨K, hK⟩ : ∃ K : Nat, cutK (keepOf keep k) f = (K : Int) := ⟨(cutK (keepOf keep k) f).toNat, by omega⟩
      rw [hK] at hKb
      have hKn : K ≤ f.bytes.size := by omega
      have hKs := extract_size f.bytes hKn
      have HK0 := Lib.hid hK
      unfold cutK at hK
      have HKr := Lib.hid (HK.out.keep hkw (fun q _ hq hx => HG.out q hq hx))
      have HI := Lib.hid hI
      have HCS := Lib.hid hcs
      have HCK := Lib.hid hCk
      have HCL := Lib.hid hCl
      clear hI hkw hxx hg hat hf hcs hCk hCl
      go_upto_if 19 with (fail)
      go_cut [5] (fun s5 wx => s5 = .int .i64 (keepOf keep k) ∧ wr = wx)
      case first =>
        by_cases hki : k < keep.length
        · obtain ⟨bk, ok, rfl, _, _, hxk⟩ := HKr.out.cell_ hki
          have y0 := hxk 0 _ rfl
          simp only [Nat.mul_one, Nat.add_zero] at y0
          clear hxk c0 x0 x1 x2
          go_wp2_with fail
          go_meet
          exact ⟨by rw [← keepOf_in hki, HMM.out], rfl⟩
        · clear c0 x0 x1 x2
          go_wp2_with fail
          go_meet
          exact ⟨by rw [keepOf_out hki], rfl⟩
      case rest =>
        obtain ⟨rfl, rfl⟩ := hcut
        go_upto_region 7 with (fail)
        have hblk3 := heap_alloc_new wr (.cells #[.string f.name, .string f.bytes, .int .i64 f.syn] 141)
        have hb3 : Below wr.heap.size wr (wr.alloc (.cells #[.string f.name, .string f.bytes, .int .i64 f.syn] 141)) := (Below.refl _ wr).alloc (Nat.le_refl _) _
        obtain ⟨q, hq⟩ : ∃ q, wr.heap.size = q := ⟨_, rfl⟩
        rw [hq] at hblk3 ⊢
        have HB3 := Lib.hid hb3
        clear hb3 c0 x0 x1 x2
        generalize wr.alloc (.cells #[.string f.name, .string f.bytes, .int .i64 f.syn] 141) = w3 at hblk3 HB3 ⊢
        have q0 : w3.cell? ⟨q, 0, none⟩ = some (.string f.name) := cell_of_row w3 q 0 _ _ _ hblk3
        have q1 : w3.cell? ⟨q, 1, none⟩ = some (.string f.bytes) := cell_of_row w3 q 1 _ _ _ hblk3
        have q2 : w3.cell? ⟨q, 2, none⟩ = some (.int .i64 f.syn) := cell_of_row w3 q 2 _ _ _ hblk3
        have f1 : w3.frozen? ⟨q, 1, none⟩ = false := frozen_block hblk3 1
        have HL3 := Lib.hid hblk3
        clear hblk3
        go_upto_region 9 with (fail)
        have hk4 := Keeps.one w3 q 1 (.string (f.bytes.extract 0 K))
        have hblk4 := setCell_block (o := 1) HL3.out (.string (f.bytes.extract 0 K))
        generalize w3.setCell ⟨q, 1, none⟩ (.string (f.bytes.extract 0 K)) = w4 at hk4 hblk4 ⊢
        clear q0 q1 q2 f1
        have q1 : w4.cell? ⟨q, 1, none⟩ = some (.string (f.bytes.extract 0 K)) := cell_of_row w4 q 1 _ _ _ hblk4
        have q2 : w4.cell? ⟨q, 2, none⟩ = some (.int .i64 f.syn) := cell_of_row w4 q 2 _ _ _ hblk4
        have f2 : w4.frozen? ⟨q, 2, none⟩ = false := frozen_block hblk4 2
        have HL4 := Lib.hid hblk4
        have HK4 := Lib.hid hk4
        clear hblk4 hk4
        go_upto_region 10 with (fail)
        have hk5 := Keeps.one w4 q 2 (.int .i64 K)
        have hblk5 := setCell_block (o := 2) HL4.out (.int .i64 K)
        generalize w4.setCell ⟨q, 2, none⟩ (.int .i64 K) = w5 at hk5 hblk5 ⊢
        clear q1 q2 f2
        have q0 : w5.cell? ⟨q, 0, none⟩ = some (.string f.name) := cell_of_row w5 q 0 _ _ _ hblk5
        have q1 : w5.cell? ⟨q, 1, none⟩ = some (.string (f.bytes.extract 0 K)) := cell_of_row w5 q 1 _ _ _ hblk5
        have q2 : w5.cell? ⟨q, 2, none⟩ = some (.int .i64 K) := cell_of_row w5 q 2 _ _ _ hblk5
        have hlw := HI.out.lt
        rw [hq] at hlw
        have hnq : ∀ k, F k → k ≠ q := fun k hk e => Nat.lt_irrefl _ (e ▸ hlw k hk)
        have hI3 := HI.out.fresh HB3.out
        have hI5 := (hI3.keep HK4.out hnq).keep hk5 hnq
        have c0 := hI5.c0
        obtain ⟨g', c', cur', hv, _, _, hg5⟩ := hI5.head (by omega)
        injection hv with hv1 hv2 hv3
        clear hv2 hv3
        injection hv1 with hv1
        injection hv1 with hv1 hv2 hv3
        clear hv2 hv3
        subst hv1
        obtain ⟨b, o, e, _, _, hxx⟩ := (hI5.row.sl elFl.len).cell_ hkC
        injection e with e
        injection e with e1 e2 e3
        clear e3
        subst e1 e2
        rw [HCK.out] at hxx
        have z0 := hxx 0 _ rfl
        have z1 := hxx 1 _ rfl
        have z2 := hxx 2 _ rfl
        simp only [Nat.zero_add, Nat.add_zero] at z0 z1 z2
        clear hxx
        have f0 : w5.frozen? ⟨g, k * 3, none⟩ = false := frozen_block hg5 _
        have f1 : w5.frozen? ⟨g, k * 3 + 1, none⟩ = false := frozen_block hg5 _
        have f2 : w5.frozen? ⟨g, k * 3 + 2, none⟩ = false := frozen_block hg5 _
        have HI5 := Lib.hid hI5
        have HK5 := Lib.hid hk5
        clear hI3 hI5 hk5 hblk5 hg5
        go_still_tail 7, (by kernel_rfl)
        change wpList _ _ _ _ _ w5.drew
        go_wp2_with fail
        go_roundw
        case rel =>
          have hx : (⟨f.name, f.bytes.extract 0 K, K⟩ : Fl) = cutF (keepOf keep k) f := by
            unfold cutF
            rw [HK0.out, Int.toNat_natCast]
          obtain ⟨r1, r2⟩ := HI5.out.row3 hkC ⟨f.name, f.bytes.extract 0 K, K⟩
          have hC := HCS.out
          rw [← hx] at hC
          rw [← hC] at r1
          have hkk : Keeps F wr w5 := (((Keeps.of_fresh HB3.out F).andThen HK4.out (fun i hi e => absurd hi (by omega))).andThen HK5.out (fun i hi e => absurd hi (by omega)))
          exact ⟨k + 1, hlt, by go_num, r1.drew, (HKW.out.trans (hkk.trans r2)).drew⟩
        case measure => simp [RowKit.intOf]; omega
    · have hkd : k = S.length := by omega
      subst hkd
      have HI := Lib.hid hI
      clear hI hkw
      go_wp2_with fail
      go_end0
      refine ⟨rfl, S.map Fl.name, Hs.out.names, HKW.out, _, (show MdAt _ _ _ _ _ from ⟨_, HI.out⟩).wide w.heap.size, ?_⟩
      rw [List.length_map]
      exact Hs.out.crash _ _ _
end Go.Proofs.YthebmbhdlkldiaaGreatDoor.Dsk
