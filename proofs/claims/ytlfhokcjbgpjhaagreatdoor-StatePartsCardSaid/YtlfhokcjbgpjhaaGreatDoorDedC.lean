/- Dedup: what a put makes of a table's blocks. -/
import Derived.Test.YtlfhokcjbgpjhaaGreatDoorDedB
namespace Go.Proofs.YtlfhokcjbgpjhaaGreatDoor.Ded
open Go.RowKit Go.Bl

def putL (L : List En) (x y : Int) (o : Oc) : List En × Int :=
  if x < 1 ∨ y < 1 then (L, 1) else if (lookL L x y).2 = 1 then (L, 7) else if (lookL L x y).2 = 2 then (L, 12) else (L ++ [⟨x, y, o⟩], 0)
theorem lookL_cases (L : List En) (x y : Int) : ((lookL L x y).2 = 0 ∧ 1 ≤ y ∧ highL L x - 8 < y ∧ findL L x y = none) ∨ (lookL L x y).2 = 1 ∨ (lookL L x y).2 = 2 := by
  by_cases ho : y < 1 ∨ y ≤ highL L x - 8
  · exact .inr (.inr (by rw [lookL_old ho]))
  · cases hf : findL L x y with
    | none => exact .inl ⟨by rw [lookL_fresh ho hf], by omega, by omega, rfl⟩
    | some o => exact .inr (.inl (by rw [lookL_known ho hf]))
theorem inj_of_nodup {α β : Type} {f : α → β} : ∀ {l : List α}, (l.map f).Nodup → ∀ {a b}, a ∈ l → b ∈ l → f a = f b → a = b
  | c :: l, h, a, b, ha, hb, e => by
    rw [List.map_cons, List.nodup_cons] at h
    rcases List.mem_cons.1 ha with e1 | h1 <;> rcases List.mem_cons.1 hb with e2 | h2
    · exact e1.trans e2.symm
    · exact absurd (List.mem_map.2 ⟨b, h2, e.symm.trans (congrArg f e1)⟩) h.1
    · exact absurd (List.mem_map.2 ⟨a, h1, e.trans (congrArg f e2)⟩) h.1
    · exact inj_of_nodup h.2 h1 h2 e
theorem rowsO_del (O : List (Int × Nat)) (x : Int) : (rowsO O).filter (fun r => decide (r.1 ≠ x)) = rowsO (O.filter fun q => decide (q.1 ≠ x)) := by
  simp only [rowsO, List.filter_map]; rfl
def goneO (ks : List Int) (hi : Int) (O : List (Int × Nat)) : List (Int × Nat) := O.filter fun q => !(decide (q.1 ∈ ks) && decide (q.1 ≤ hi - 8))
theorem goneO_del (ks : List Int) (hi : Int) (O : List (Int × Nat)) (x : Int) (hx : x ≤ hi - 8) : (goneO ks hi O).filter (fun q => decide (q.1 ≠ x)) = goneO (ks ++ [x]) hi O := by
  unfold goneO
  rw [List.filter_filter]
  refine List.filter_congr fun q _ => ?_
  by_cases e : q.1 = x
  · simp [e, hx]
  · simp [e]
theorem goneO_skip (ks : List Int) (hi : Int) (O : List (Int × Nat)) (x : Int) (hx : ¬ x ≤ hi - 8) : goneO ks hi O = goneO (ks ++ [x]) hi O := by
  unfold goneO
  refine List.filter_congr fun q _ => ?_
  by_cases e : q.1 = x
  · simp [e, hx]
  · simp [e]
theorem goneO_nil (hi : Int) (O : List (Int × Nat)) : goneO [] hi O = O := by simp [goneO]

section
variable {w w' : World} {p : Nat} {L : List En} {F G F' : Nat → Prop} {bm : Nat} {R : List SRow} {r : SRow}
theorem TabIn.mono (h : TabIn w p L F G bm R) (hF : ∀ k, F k → F' k) (hl : ∀ k, F' k → k < w.heap.size) : TabIn w p L F' G bm R :=
  ⟨h.blk, h.map, h.ses, h.mem, h.dist, h.dism, hF _ h.fp, h.gp, h.gm, h.gb, fun r hr q hq => ⟨hF _ (h.fo r hr q hq).1, (h.fo r hr q hq).2⟩, fun k hk => hF _ (h.gf k hk), hl, h.ok⟩
/-- A new session. -/
theorem put_new (h : TabIn w p L F G bm R) {x : Int} (hn : ∀ r ∈ R, r.n ≠ x) {b mo : Nat} (hmo : w.heap.size ≤ mo) (hb : w.heap.size ≤ b) (hbm : mo ≠ b) (hk : Keeps (fun z => z = bm) w w')
    (hmap : MapL w' Tryz.prog 3 intLit bm (rowsS R ++ [(x, ptr b)])) (hblk : w'.heap[b]? = some (.cells #[.int .i64 0, .map (some mo)] 121 (0, 0))) (hmm : MapL w' Tryz.prog 3 intLit mo [])
    (hF : ∀ k, F' k ↔ F k ∨ (w.heap.size ≤ k ∧ k < w'.heap.size)) :
    TabIn w' p L F' (fun k => G k ∨ k = b ∨ k = mo) bm (R ++ [⟨x, b, mo, []⟩]) := by
  have hbl : b < w'.heap.size := (Array.getElem?_eq_some_iff.1 hblk).1
  have hlG : ∀ k, G k → k < w.heap.size := fun k hk => h.lt k (h.gf k hk)
  have hpl := h.lt p h.fp
  have hne : ∀ k, F k → ¬ G k → k ≠ bm := fun k _ hg e => hg (e ▸ h.gm)
  refine ⟨hk.grownTo h.blk (fun e => h.gp (e ▸ h.gm)), by simpa [rowsS] using hmap, ?_, ?_, ?_, ?_, (hF p).2 (.inl h.fp), ?_, .inl h.gm, ?_, ?_, ?_, ?_, h.ok⟩
  · intro s hs
    rcases List.mem_append.1 hs with hs | hs
    · have hd := List.nodup_cons.1 h.dism
      exact (h.ses s hs).keep hk (fun e => h.map.not_cells (e ▸ (h.ses s hs).blk)) (fun e => hd.1 (e ▸ List.mem_map.2 ⟨s, hs, rfl⟩)) (fun q hq => hne _ (h.fo s hs q hq).1 (h.fo s hs q hq).2)
    · obtain rfl := List.mem_singleton.1 hs
      refine ⟨?_, by simpa [rowsO] using hmm, by simp, ?_, by simp⟩
      · rw [highL_none (h.no_ses hn)]; exact hblk
      · intro y o _ hf
        rw [findL_none (h.no_ses hn)] at hf
        simp at hf
  · intro e he
    obtain ⟨s, hs, e2⟩ := h.mem e he
    exact ⟨s, List.mem_append_left _ hs, e2⟩
  · rw [List.map_append, List.nodup_append]
    refine ⟨h.dist, by simp, fun a ha c hc => ?_⟩
    obtain ⟨s, hs, rfl⟩ := List.mem_map.1 ha
    simp only [List.map_cons, List.map_nil, List.mem_singleton] at hc
    have := hlG _ (h.gb s hs).1
    omega
  · rw [List.map_append, ← List.cons_append, List.nodup_append]
    refine ⟨h.dism, by simp, fun a ha c hc => ?_⟩
    simp only [List.map_cons, List.map_nil, List.mem_singleton] at hc
    rcases List.mem_cons.1 ha with rfl | ha
    · have := hlG _ h.gm; omega
    · obtain ⟨s, hs, rfl⟩ := List.mem_map.1 ha
      have := hlG _ (h.gb s hs).2
      omega
  · rintro (e | e | e)
    · exact h.gp e
    · omega
    · omega
  · intro s hs
    rcases List.mem_append.1 hs with hs | hs
    · exact ⟨.inl (h.gb s hs).1, .inl (h.gb s hs).2⟩
    · obtain rfl := List.mem_singleton.1 hs
      exact ⟨.inr (.inl rfl), .inr (.inr rfl)⟩
  · intro s hs q hq
    rcases List.mem_append.1 hs with hs | hs
    · have h1 := h.fo s hs q hq
      refine ⟨(hF _).2 (.inl h1.1), ?_⟩
      have := h.lt _ h1.1
      rintro (e | e | e)
      · exact h1.2 e
      · omega
      · omega
    · obtain rfl := List.mem_singleton.1 hs
      cases hq
  · rintro k (e | e | e)
    · exact (hF k).2 (.inl (h.gf k e))
    · subst e; exact (hF _).2 (.inr ⟨hb, hbl⟩)
    · subst e; exact (hF _).2 (.inr ⟨hmo, hmm.lt⟩)
  · intro k hk'
    rcases (hF k).1 hk' with e | e
    · exact Nat.lt_of_lt_of_le (h.lt k e) hk.size
    · exact e.2

/-- A put number. -/
theorem put_done (h : TabIn w p L F G bm R) (hr : r ∈ R) {y : Int} {o : Oc} {bo : Nat} (hbo : w.heap[bo]? = some (.cells (occ o).toArray 35 (0, 0))) (hFo : F bo) (hGo : ¬ G bo)
    (hx : 1 ≤ r.n ∧ r.n ≤ 9223372036854775807) (hy : 1 ≤ y ∧ y ≤ 9223372036854775807) (hnew : highL L r.n - 8 < y) (hf : findL L r.n y = none) {hi : Int} (hhi : hi = max (highL L r.n) y) (hk : Keeps (fun z => z = r.b ∨ z = r.mo) w w')
    (hblk : w'.heap[r.b]? = some (.cells #[.int .i64 hi, .map (some r.mo)] 121 (0, 0))) {ks : List Int} (hks : ∀ z, z ∈ ks ↔ ∃ q ∈ r.O ++ [(y, bo)], q.1 = z)
    (hmap : MapL w' Tryz.prog 3 intLit r.mo (rowsO (goneO ks hi (r.O ++ [(y, bo)])))) (hF : ∀ k, F k → F' k) (hl : ∀ k, F' k → k < w'.heap.size) :
    TabIn w' p (L ++ [⟨r.n, y, o⟩]) F' G bm (R.map fun s => if s.b = r.b then { s with O := goneO ks hi (r.O ++ [(y, bo)]) } else s) := by
  have hgone : ∀ q, q ∈ goneO ks hi (r.O ++ [(y, bo)]) ↔ q ∈ r.O ++ [(y, bo)] ∧ hi - 8 < q.1 := by
    intro q
    unfold goneO
    rw [List.mem_filter]
    refine ⟨fun ⟨h1, h2⟩ => ⟨h1, ?_⟩, fun ⟨h1, h2⟩ => ⟨h1, ?_⟩⟩
    · have : q.1 ∈ ks := (hks _).2 ⟨q, h1, rfl⟩
      simp [this] at h2
      omega
    · simp; exact .inr h2
  have hGk : ∀ k, F k → ¬ G k → ¬ (k = r.b ∨ k = r.mo) := fun k _ hg e => by
    rcases e with rfl | rfl
    · exact hg (h.gb r hr).1
    · exact hg (h.gb r hr).2
  have hdm := List.nodup_cons.1 h.dism
  have heq : ∀ s ∈ R, s.b = r.b → s = r := fun s hs e => inj_of_nodup h.dist hs hr e
  have hen : ∀ s ∈ R, s.n = r.n → s = r := fun s hs e => inj_of_nodup (f := SRow.n) (by have := h.map.1; simpa [rowsS, Function.comp_def] using this) hs hr e
  have hem : ∀ s ∈ R, s.mo = r.mo → s = r := fun s hs e => inj_of_nodup hdm.2 hs hr e
  have hup : ∀ s, (if s.b = r.b then ({ s with O := goneO ks hi (r.O ++ [(y, bo)]) } : SRow) else s).n = s.n ∧ (if s.b = r.b then ({ s with O := goneO ks hi (r.O ++ [(y, bo)]) } : SRow) else s).b = s.b ∧ (if s.b = r.b then ({ s with O := goneO ks hi (r.O ++ [(y, bo)]) } : SRow) else s).mo = s.mo := fun s => by split <;> exact ⟨rfl, rfl, rfl⟩
  have hrows : rowsS (R.map fun s => if s.b = r.b then { s with O := goneO ks hi (r.O ++ [(y, bo)]) } else s) = rowsS R := by
    unfold rowsS
    rw [List.map_map]
    refine List.map_congr_left fun s _ => ?_
    show (_, _) = _
    rw [(hup s).1, (hup s).2.1]
  refine ⟨hk.grownTo h.blk (fun e => ?_), ?_, ?_, ?_, ?_, ?_, hF _ h.fp, h.gp, h.gm, ?_, ?_, fun k hk => hF _ (h.gf k hk), hl, ?_⟩
  · rcases e with e | e
    · exact h.gp (e ▸ (h.gb r hr).1)
    · exact h.gp (e ▸ (h.gb r hr).2)
  · rw [hrows]
    refine h.map.keep hk (fun e => ?_)
    rcases e with e | e
    · exact h.map.not_cells (e ▸ (h.ses r hr).blk)
    · exact hdm.1 (e ▸ List.mem_map.2 ⟨r, hr, rfl⟩)
  · intro s' hs'
    obtain ⟨s, hs, rfl⟩ := List.mem_map.1 hs'
    by_cases hsb : s.b = r.b
    · obtain rfl := heq s hs hsb
      rw [if_pos rfl]
      have hs0 := h.ses s hs
      have hhl : highL (L ++ [⟨s.n, y, o⟩]) s.n = hi := by rw [highL_append, if_pos rfl, hhi]
      refine ⟨by show w'.heap[s.b]? = some (.cells #[.int .i64 (highL _ s.n), _] _ _); rw [hhl]; exact hblk, hmap, ?_, ?_, ?_⟩
      · intro q hq
        obtain ⟨h1, h2⟩ := (hgone q).1 hq
        refine ⟨by show highL _ s.n - 8 < _; rw [hhl]; exact h2, ?_⟩
        rcases List.mem_append.1 h1 with h1 | h1
        · obtain ⟨_, o', h3, h4⟩ := hs0.out q h1
          have h5 := h.fo s hs q h1
          exact ⟨o', by show findL _ s.n q.1 = _; rw [findL_append, h3]; rfl, hk.grownTo h4 (hGk _ h5.1 h5.2)⟩
        · obtain rfl := List.mem_singleton.1 h1
          exact ⟨o, by show findL _ s.n y = _; rw [findL_append, hf]; simp, hk.grownTo hbo (hGk _ hFo hGo)⟩
      · intro y' o' h1 h2
        have h1 : hi - 8 < y' := by rw [← hhl]; exact h1
        have h2 : findL (L ++ [⟨s.n, y, o⟩]) s.n y' = some o' := h2
        show ∃ q ∈ goneO ks hi (s.O ++ [(y, bo)]), q.1 = y'
        rw [findL_append] at h2
        cases hfo : findL L s.n y' with
        | some o2 =>
          obtain ⟨q, hq, rfl⟩ := hs0.all y' o2 (by omega) hfo
          exact ⟨q, (hgone q).2 ⟨List.mem_append_left _ hq, h1⟩, rfl⟩
        | none =>
          rw [hfo] at h2
          by_cases hyy : y = y'
          · subst hyy
            exact ⟨(y, bo), (hgone _).2 ⟨List.mem_append_right _ (List.mem_singleton.2 rfl), h1⟩, rfl⟩
          · simp [hyy] at h2
      · show (goneO ks hi (s.O ++ [(y, bo)])).length ≤ _
        have h1 : (goneO ks hi (s.O ++ [(y, bo)])).length ≤ (s.O ++ [(y, bo)]).length := List.length_filter_le _ _
        have h2 := hs0.olen
        simp only [List.length_append, List.length_singleton] at h1 ⊢
        omega
    · rw [if_neg hsb]
      have hs0 := h.ses s hs
      have hsn : s.n ≠ r.n := fun e => hsb (by rw [hen s hs e])
      have hs1 := hs0.keep hk (fun e => by
        rcases e with e | e
        · exact hsb e
        · exact (h.ses r hr).map.not_cells (e ▸ hs0.blk)) (fun e => by
        rcases e with e | e
        · exact hs0.map.not_cells (e ▸ (h.ses r hr).blk)
        · exact hsb (by rw [hem s hs e])) (fun q hq => hGk _ (h.fo s hs q hq).1 (h.fo s hs q hq).2)
      have hhl : highL (L ++ [⟨r.n, y, o⟩]) s.n = highL L s.n := by rw [highL_append, if_neg (Ne.symm hsn)]
      have hfl : ∀ z, findL (L ++ [⟨r.n, y, o⟩]) s.n z = findL L s.n z := fun z => by rw [findL_append, if_neg (fun e => hsn e.1.symm), Option.or_none]
      exact ⟨by rw [hhl]; exact hs1.blk, hs1.map, fun q hq => by rw [hhl, hfl]; exact hs1.out q hq, fun z o' h1 h2 => hs1.all z o' (by rw [hhl] at h1; exact h1) (by rw [hfl] at h2; exact h2), Nat.le_trans hs1.olen (by simp)⟩
  · intro e he
    rcases List.mem_append.1 he with he | he
    · obtain ⟨s, hs, e2⟩ := h.mem e he
      exact ⟨_, List.mem_map.2 ⟨s, hs, rfl⟩, (hup s).1.trans e2⟩
    · obtain rfl := List.mem_singleton.1 he
      exact ⟨_, List.mem_map.2 ⟨r, hr, rfl⟩, (hup r).1⟩
  · rw [List.map_map, show (SRow.b ∘ fun s => if s.b = r.b then ({ s with O := goneO ks hi (r.O ++ [(y, bo)]) } : SRow) else s) = SRow.b from funext fun s => (hup s).2.1]
    exact h.dist
  · rw [List.map_map, show (SRow.mo ∘ fun s => if s.b = r.b then ({ s with O := goneO ks hi (r.O ++ [(y, bo)]) } : SRow) else s) = SRow.mo from funext fun s => (hup s).2.2]
    exact h.dism
  · intro s' hs'
    obtain ⟨s, hs, rfl⟩ := List.mem_map.1 hs'
    rw [(hup s).2.1, (hup s).2.2]
    exact h.gb s hs
  · intro s' hs' q hq
    obtain ⟨s, hs, rfl⟩ := List.mem_map.1 hs'
    by_cases hsb : s.b = r.b
    · rw [if_pos hsb] at hq
      obtain ⟨h1, _⟩ := (hgone q).1 hq
      rcases List.mem_append.1 h1 with h1 | h1
      · exact ⟨hF _ (h.fo r hr q h1).1, (h.fo r hr q h1).2⟩
      · obtain rfl := List.mem_singleton.1 h1
        exact ⟨hF _ hFo, hGo⟩
    · rw [if_neg hsb] at hq
      exact ⟨hF _ (h.fo s hs q hq).1, (h.fo s hs q hq).2⟩
  · refine ⟨fun e he => ?_, fun e he => ?_⟩
    · rcases List.mem_append.1 he with he | he
      · exact h.ok.ses e he
      · obtain rfl := List.mem_singleton.1 he; exact hx
    · rcases List.mem_append.1 he with he | he
      · exact h.ok.seq e he
      · obtain rfl := List.mem_singleton.1 he; exact hy
end
end Go.Proofs.YtlfhokcjbgpjhaaGreatDoor.Ded
