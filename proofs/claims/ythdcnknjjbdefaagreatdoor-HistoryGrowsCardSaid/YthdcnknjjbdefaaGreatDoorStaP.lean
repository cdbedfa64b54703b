/- States in plain words: what has been added, what has been put, how far; what an entry makes. No condition. -/
import Derived.Test.YthdcnknjjbdefaaGreatDoorRecA
import Derived.Test.YthdcnknjjbdefaaGreatDoorIdxC
import Derived.Test.YthdcnknjjbdefaaGreatDoorDedD
namespace Go.Proofs.YthdcnknjjbdefaaGreatDoor
open Go.RowKit Go.Bl

/-- A state: the events that were added, the outcomes that were put, the last entry's place. -/
structure St where
  L : List Idx.One
  T : List Ded.En
  ap : Int
def St.new : St := ⟨[], [], 0⟩
def verS (s : St) (n : ByteArray) : Int := (Idx.ofS s.L n).length
def addS (s : St) (a : Ent) : List Idx.One := s.L ++ a.evs.map (Idx.mkOne a.stream a.pos)
/-- What a fresh batch makes. -/
def freshO (s : St) (a : Ent) : Ded.Oc :=
  if a.expect ≠ -1 ∧ a.expect ≠ verS s a.stream then ⟨2, a.pos, verS s a.stream, verS s a.stream⟩ else ⟨1, a.pos, verS s a.stream, verS s a.stream + a.evs.length⟩
def freshL (s : St) (a : Ent) : List Idx.One := if a.expect ≠ -1 ∧ a.expect ≠ verS s a.stream then s.L else addS s a
def applyS (s : St) (a : Ent) : St × Ded.Oc × Int :=
  if rightB a = false then (s, Ded.oc0, 1) else if a.pos ≠ s.ap + 1 then (s, Ded.oc0, 11)
  else if (Ded.lookL s.T a.session a.seq).2 = 1 then (⟨s.L, s.T, a.pos⟩, (Ded.lookL s.T a.session a.seq).1, 0)
  else if (Ded.lookL s.T a.session a.seq).2 = 2 then (⟨s.L, s.T, a.pos⟩, ⟨3, a.pos, 0, 0⟩, 0)
  else (⟨freshL s a, (Ded.putL s.T a.session a.seq (freshO s a)).1, a.pos⟩, freshO s a, 0)

theorem right_nums {a : Ent} (h : rightB a = true) : (1 ≤ a.pos ∧ a.pos ≤ 274877906944) ∧ (-1 ≤ a.expect ∧ a.expect ≤ 274877906944) ∧ (1 ≤ a.session ∧ a.session ≤ 274877906944) ∧ (1 ≤ a.seq ∧ a.seq ≤ 274877906944) ∧ 1 ≤ a.evs.length ∧ a.evs.length ≤ 8 := by
  simp only [rightB, Bool.and_eq_true, decide_eq_true_eq] at h
  obtain ⟨h1, _, h3⟩ := h
  unfold fitsI at h3
  split at h3
  · omega
  split at h3
  · omega
  split at h3
  · omega
  split at h3
  · omega
  split at h3
  · omega
  split at h3
  · omega
  rename_i hn hs _ _ _
  have f : ∀ n : Int, ¬ numB n = false → 1 ≤ n ∧ n ≤ 274877906944 := fun n hn => by
    have : numB n = true := by simpa using hn
    simpa [numB] using this
  have f' : ∀ n : Int, numB n = true → 1 ≤ n ∧ n ≤ 274877906944 := fun n hn => by simpa [numB] using hn
  refine ⟨f' _ h1, by omega, f _ (by assumption), f _ (by assumption), by omega, by omega⟩

/-- The ways of an entry that is the next one. -/
theorem apply_next {s : St} {a : Ent} (hr : rightB a = true) (hp : a.pos = s.ap + 1) :
    (∃ o, Ded.lookL s.T a.session a.seq = (o, 1) ∧ Ded.findL s.T a.session a.seq = some o ∧ Ded.highL s.T a.session - 8 < a.seq ∧ applyS s a = (⟨s.L, s.T, a.pos⟩, o, 0)) ∨
    ((Ded.lookL s.T a.session a.seq).2 = 2 ∧ a.seq ≤ Ded.highL s.T a.session - 8 ∧ applyS s a = (⟨s.L, s.T, a.pos⟩, ⟨3, a.pos, 0, 0⟩, 0)) ∨
    ((Ded.lookL s.T a.session a.seq).2 = 0 ∧ Ded.findL s.T a.session a.seq = none ∧ Ded.highL s.T a.session - 8 < a.seq ∧ applyS s a = (⟨freshL s a, s.T ++ [⟨a.session, a.seq, freshO s a⟩], a.pos⟩, freshO s a, 0)) := by
  obtain ⟨_, _, hs, hq, _⟩ := right_nums hr
  have e1 : ¬ rightB a = false := by rw [hr]; decide
  unfold applyS
  rw [if_neg e1, if_neg (by omega)]
  by_cases ho : a.seq < 1 ∨ a.seq ≤ Ded.highL s.T a.session - 8
  · rw [Ded.lookL_old ho]
    exact .inr (.inl ⟨rfl, by omega, rfl⟩)
  · cases hf : Ded.findL s.T a.session a.seq with
    | none =>
      refine .inr (.inr ?_)
      have hl := Ded.lookL_fresh ho hf
      rw [hl]
      refine ⟨rfl, rfl, by omega, ?_⟩
      have : Ded.putL s.T a.session a.seq (freshO s a) = (s.T ++ [⟨a.session, a.seq, freshO s a⟩], 0) := by
        unfold Ded.putL
        rw [if_neg (by omega), hl]
        rfl
      rw [this]
      rfl
    | some o =>
      rw [Ded.lookL_known ho hf]
      exact .inl ⟨o, rfl, rfl, by omega, rfl⟩
theorem apply_err {s : St} {a : Ent} (h : rightB a = false ∨ a.pos ≠ s.ap + 1) : (applyS s a).1 = s ∧ (applyS s a).2.1 = Ded.oc0 ∧ ((applyS s a).2.2 = 1 ∨ (applyS s a).2.2 = 11) := by
  unfold applyS
  by_cases h1 : rightB a = false
  · rw [if_pos h1]; exact ⟨rfl, rfl, .inl rfl⟩
  · rw [if_neg h1, if_pos (h.resolve_left h1)]; exact ⟨rfl, rfl, .inr rfl⟩
theorem freshL_len (s : St) (a : Ent) : (freshL s a).length ≤ s.L.length + a.evs.length := by
  unfold freshL addS
  split
  · omega
  · rw [List.length_append, List.length_map]; omega
/-- What grows with an entry. -/
theorem apply_grows (s : St) (a : Ent) : (applyS s a).1.L.length ≤ s.L.length + 8 ∧ (applyS s a).1.T.length ≤ s.T.length + 1 ∧ (s.ap ≤ (applyS s a).1.ap ∧ (applyS s a).1.ap ≤ s.ap + 1) ∧ ((applyS s a).2.2 = 0 → (applyS s a).1.ap = s.ap + 1) := by
  by_cases h : rightB a = true ∧ a.pos = s.ap + 1
  · have := freshL_len s a
    have h8 := (right_nums h.1).2.2.2.2.2
    rcases apply_next h.1 h.2 with ⟨o, _, _, _, e⟩ | ⟨_, _, e⟩ | ⟨_, _, _, e⟩ <;> rw [e]
    · exact ⟨by simp, by simp, by simp only; omega, fun _ => h.2⟩
    · exact ⟨by simp, by simp, by simp only; omega, fun _ => h.2⟩
    · exact ⟨by simp only; omega, by simp, by simp only; omega, fun _ => h.2⟩
  · obtain ⟨e1, e2, e3⟩ := apply_err (s := s) (a := a) (by
      by_cases h1 : rightB a = true
      · exact .inr (fun h2 => h ⟨h1, h2⟩)
      · exact .inl (by simpa using h1))
    rw [e1]
    exact ⟨by omega, by omega, by omega, fun h0 => by omega⟩

theorem find_at {L : List Ded.En} {x y : Int} {o : Ded.Oc} (h : Ded.findL L x y = some o) : ∃ e ∈ L, e.ses = x ∧ e.seq = y := by
  obtain ⟨e, he, _⟩ := Option.map_eq_some_iff.1 h
  have hp := List.find?_some he
  simp only [Bool.and_eq_true, decide_eq_true_eq] at hp
  exact ⟨e, List.mem_of_find?_eq_some he, hp⟩

/-! ### Requests that stand again -/
/-- What the law has noted: the requests D, their outcomes O, how many events were added. -/
structure OnceOk (s : St) (D : List Ent) (O : List Ded.Oc) (sum : Int) : Prop where
  len : O.length = D.length
  known : ∀ k (h : k < D.length) (h' : k < O.length), Ded.findL s.T D[k].session D[k].seq = some O[k] ∨ D[k].seq ≤ Ded.highL s.T D[k].session - 8
  mem : ∀ e ∈ s.T, ∃ d ∈ D, d.session = e.ses ∧ d.seq = e.seq
  sum : sum = s.L.length
theorem OnceOk.start : OnceOk St.new [] [] 0 := ⟨rfl, fun k h => absurd h (by simp), fun e he => absurd he (by simp [St.new]), rfl⟩
def knownB (D : List Ent) (a : Ent) : Bool := D.any fun d => decide (d.session = a.session) && decide (d.seq = a.seq)
def addO (o : Ded.Oc) (a : Ent) : Int := if o.code = 1 then a.evs.length else 0
theorem high_more (L : List Ded.En) (e : Ded.En) (x : Int) : Ded.highL L x ≤ Ded.highL (L ++ [e]) x := by
  rw [Ded.highL_append]; split <;> omega
theorem OnceOk.step {s : St} {D : List Ent} {O : List Ded.Oc} {sum : Int} (h : OnceOk s D O sum) {a : Ent} (he : (applyS s a).2.2 = 0) :
    (∀ k (h : k < D.length) (h' : k < O.length), D[k].session = a.session → D[k].seq = a.seq → (applyS s a).2.1 = O[k] ∨ (applyS s a).2.1.code = 3) ∧
    (knownB D a = true → OnceOk (applyS s a).1 D O sum) ∧
    (knownB D a = false → OnceOk (applyS s a).1 (D ++ [a]) (O ++ [(applyS s a).2.1]) (sum + addO (applyS s a).2.1 a)) := by
  have hn : rightB a = true ∧ a.pos = s.ap + 1 := by
    apply Decidable.byContradiction
    intro h
    have := (apply_err (s := s) (a := a) (by
      by_cases h1 : rightB a = true
      · exact .inr (fun h2 => h ⟨h1, h2⟩)
      · exact .inl (by simpa using h1))).2.2
    omega
  have hnk : knownB D a = false → ∀ d ∈ D, ¬ (d.session = a.session ∧ d.seq = a.seq) := fun hk d hd hc => by
    have : knownB D a = true := List.any_eq_true.2 ⟨d, hd, by simp [hc]⟩
    rw [this] at hk; cases hk
  have hkn : knownB D a = true → ∃ k, ∃ (h : k < D.length), D[k].session = a.session ∧ D[k].seq = a.seq := fun hk => by
    obtain ⟨d, hd, hc⟩ := List.any_eq_true.1 hk
    obtain ⟨k, hk, e⟩ := List.mem_iff_getElem.1 hd
    exact ⟨k, hk, by rw [e]; simpa using hc⟩
  rcases apply_next hn.1 hn.2 with ⟨o, _, hf, hh, e⟩ | ⟨_, hh, e⟩ | ⟨_, hf, hh, e⟩ <;> rw [e]
  · refine ⟨fun k h1 h2 e1 e2 => ?_, fun hk => ⟨h.len, h.known, h.mem, h.sum⟩, fun hk => ?_⟩
    · have := h.known k h1 h2
      rw [e1, e2] at this
      rcases this with q | q
      · rw [hf] at q; exact .inl (Option.some.inj q)
      · omega
    · obtain ⟨z, hz, e1, e2⟩ := find_at hf
      obtain ⟨d, hd, e3, e4⟩ := h.mem z hz
      exact absurd ⟨e3.trans e1, e4.trans e2⟩ (hnk hk d hd)
  · refine ⟨fun _ _ _ _ _ => .inr rfl, fun hk => ⟨h.len, h.known, h.mem, h.sum⟩, fun hk => ⟨by simp [h.len], fun k h1 h2 => ?_, fun z hz => ?_, ?_⟩⟩
    · by_cases hkl : k < D.length
      · rw [List.getElem_append_left hkl, List.getElem_append_left (by rw [h.len]; exact hkl)]
        exact h.known k hkl _
      · have hkk : k = D.length := by simp at h1; omega
        subst hkk
        rw [List.getElem_append_right (Nat.le_refl _)]
        simp only [Nat.sub_self, List.getElem_cons_zero]
        exact .inr hh
    · obtain ⟨d, hd, q⟩ := h.mem z hz
      exact ⟨d, List.mem_append_left _ hd, q⟩
    · simp [addO, h.sum]
  · have hno : ∀ k (h1 : k < D.length), ¬ (D[k].session = a.session ∧ D[k].seq = a.seq) := fun k h1 ⟨e1, e2⟩ => by
      have := h.known k h1 (by rw [h.len]; exact h1)
      rw [e1, e2, hf] at this
      rcases this with q | q
      · cases q
      · omega
    refine ⟨fun k h1 h2 e1 e2 => absurd ⟨e1, e2⟩ (hno k h1), fun hk => ?_, fun hk => ⟨by simp [h.len], fun k h1 h2 => ?_, fun z hz => ?_, ?_⟩⟩
    · obtain ⟨k, h1, e1⟩ := hkn hk
      exact absurd e1 (hno k h1)
    · by_cases hkl : k < D.length
      · rw [List.getElem_append_left hkl, List.getElem_append_left (by rw [h.len]; exact hkl)]
        have := high_more s.T ⟨a.session, a.seq, freshO s a⟩ D[k].session
        rcases h.known k hkl (by rw [h.len]; exact hkl) with q | q
        · left
          show Ded.findL (s.T ++ [_]) _ _ = _
          rw [Ded.findL_append, q]
          rfl
        · right
          show _ ≤ Ded.highL (s.T ++ [_]) _ - 8
          omega
      · have hkk : k = D.length := by simp at h1; omega
        subst hkk
        rw [List.getElem_append_right (Nat.le_refl _), List.getElem_append_right (by rw [h.len]; exact Nat.le_refl _)]
        simp only [Nat.sub_self, List.getElem_cons_zero, h.len]
        left
        show Ded.findL (s.T ++ [_]) _ _ = _
        rw [Ded.findL_append, hf]
        simp
    · rcases List.mem_append.1 hz with q | q
      · obtain ⟨d, hd, q⟩ := h.mem z q
        exact ⟨d, List.mem_append_left _ hd, q⟩
      · rw [List.mem_singleton] at q
        subst q
        exact ⟨a, by simp, rfl, rfl⟩
    · rw [h.sum]
      simp only [addO, freshO, freshL, addS]
      split <;> simp
end Go.Proofs.YthdcnknjjbdefaaGreatDoor
