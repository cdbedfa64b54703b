/- What the statements make of raw entries and raw ops: in plain words; no program in sight. -/
import Derived.Test.YthdcnknjjbdefaaGreatDoorBlE
import Derived.Test.YthdcnknjjbdefaaGreatDoorStaP
/- Places of ops, least first: in plain words; no program in sight. -/
namespace Go.Proofs.YthdcnknjjbdefaaGreatDoor.His

/-- What a run of places goes by: how many ops; which count; when each began and ended; which are appends; the least place of one that is no less than a bound (below 0: none). -/
structure Gm where
  n : Nat
  cnt : Nat → Bool
  st : Nat → Int
  en : Nat → Int
  app : Nat → Bool
  pl : Nat → Int → Int

/-- Which places an op may have by itself, and that pl finds the least of them. -/
structure Gm.May (g : Gm) (V : Nat → Int → Prop) : Prop where
  low : ∀ i k, V i k → 0 ≤ k
  one : ∀ i k, g.app i = true → V i k → 1 ≤ k
  yes : ∀ i m, i < g.n → 0 ≤ m → 0 ≤ g.pl i m → V i (g.pl i m) ∧ m ≤ g.pl i m ∧ (g.app i = true → m < g.pl i m)
  least : ∀ i m k, i < g.n → 0 ≤ m → V i k → m ≤ k → (g.app i = true → m < k) → 0 ≤ g.pl i m ∧ g.pl i m ≤ k
  span : ∀ i, i < g.n → g.cnt i = true → g.st i ≤ g.en i

/-- The least place that op i may have, by what is placed. -/
def Gm.lst (g : Gm) (P : Nat → Int) (i : Nat) : Nat → Int
  | 0 => 0
  | k + 1 => if g.cnt k = true ∧ g.en k < g.st i then max (g.lst P i k) (P k) else g.lst P i k
def upd (P : Nat → Int) (i : Nat) (v : Int) : Nat → Int := fun k => if k = i then v else P k
def Gm.run (g : Gm) : List Nat → (Nat → Int) → (Nat → Int) × Nat
  | [], P => (P, 0)
  | i :: r, P => if g.cnt i = true then (if g.pl i (g.lst P i g.n) < 0 then (P, i + 1) else g.run r (upd P i (g.pl i (g.lst P i g.n)))) else g.run r P
/-- Right places. -/
structure Gm.Valid (g : Gm) (V : Nat → Int → Prop) (Q : Nat → Int) : Prop where
  may : ∀ i, i < g.n → g.cnt i = true → V i (Q i)
  ord : ∀ i k, i < g.n → k < g.n → g.cnt i = true → g.cnt k = true → g.en i < g.st k → Q i ≤ Q k ∧ (g.app k = true → Q i < Q k)
/-- Places that the run would give again. -/
def Gm.Fix (g : Gm) (P : Nat → Int) : Prop := ∀ i, i < g.n → (g.cnt i = true → P i = g.pl i (g.lst P i g.n) ∧ 0 ≤ P i) ∧ (g.cnt i = false → P i = -1)

variable {g : Gm} {V : Nat → Int → Prop} {P Q : Nat → Int}
theorem Gm.lst_nonneg (g : Gm) (P : Nat → Int) (i : Nat) : ∀ k, 0 ≤ g.lst P i k
  | 0 => by unfold Gm.lst; omega
  | k + 1 => by
    have := g.lst_nonneg P i k
    unfold Gm.lst
    split <;> omega
theorem Gm.lst_at (g : Gm) (P : Nat → Int) (i : Nat) {j : Nat} : ∀ {k : Nat}, j < k → g.cnt j = true → g.en j < g.st i → P j ≤ g.lst P i k
  | 0, h, _, _ => by omega
  | k + 1, h, hc, he => by
    unfold Gm.lst
    by_cases e : j = k
    · subst e
      rw [if_pos ⟨hc, he⟩]
      omega
    · have := g.lst_at P i (j := j) (k := k) (by omega) hc he
      split <;> omega
/-- The bound is 0, or some op's place. -/
theorem Gm.lst_of (g : Gm) (P : Nat → Int) (i : Nat) : ∀ k, g.lst P i k = 0 ∨ ∃ j, j < k ∧ g.cnt j = true ∧ g.en j < g.st i ∧ g.lst P i k = P j
  | 0 => .inl rfl
  | k + 1 => by
    unfold Gm.lst
    have ih := g.lst_of P i k
    split
    · rename_i h
      by_cases e : g.lst P i k ≤ P k
      · exact .inr ⟨k, by omega, h.1, h.2, by omega⟩
      · rcases ih with ih | ⟨j, h1, h2, h3, h4⟩
        · exact .inl (by omega)
        · exact .inr ⟨j, by omega, h2, h3, by omega⟩
    · rcases ih with ih | ⟨j, h1, h2, h3, h4⟩
      · exact .inl ih
      · exact .inr ⟨j, by omega, h2, h3, h4⟩
theorem Gm.lst_congr (g : Gm) {P P' : Nat → Int} (i : Nat) : ∀ k, (∀ j, j < k → g.cnt j = true → g.en j < g.st i → P j = P' j) → g.lst P i k = g.lst P' i k
  | 0, _ => rfl
  | k + 1, h => by
    unfold Gm.lst
    rw [g.lst_congr i k (fun j hj => h j (by omega))]
    split
    · rename_i hc
      rw [h k (by omega) hc.1 hc.2]
    · rfl
/-- What stands while the run goes on: what was placed would be placed so again; nothing else is placed. -/
structure Gm.Mid (g : Gm) (pre : List Nat) (P : Nat → Int) : Prop where
  fix : ∀ i, i ∈ pre → i < g.n → (g.cnt i = true → P i = g.pl i (g.lst P i g.n) ∧ 0 ≤ P i)
  off : ∀ i, (i ∉ pre ∨ g.cnt i = false) → P i = -1
theorem Gm.Mid.step (hM : g.May V) {pre : List Nat} (h : g.Mid pre P) {i : Nat} (hi : i < g.n) (hin : i ∉ pre) (hs : ∀ j, j ∈ pre → g.st j ≤ g.st i) (hc : g.cnt i = true) (hv : 0 ≤ g.pl i (g.lst P i g.n)) : g.Mid (pre ++ [i]) (upd P i (g.pl i (g.lst P i g.n))) := by
  have hsp := hM.span i hi hc
  have hl : ∀ j, j = i ∨ j ∈ pre → g.lst (upd P i (g.pl i (g.lst P i g.n))) j g.n = g.lst P j g.n := fun j hj => g.lst_congr j g.n fun k _ _ hk => by
    unfold upd
    split
    · rename_i e
      subst e
      rcases hj with rfl | hj
      · omega
      · have := hs j hj; omega
    · rfl
  refine ⟨fun j hj hjn hcj => ?_, fun j hj => ?_⟩
  · rcases List.mem_append.1 hj with e | e
    · have hne : j ≠ i := fun e' => hin (e' ▸ e)
      rw [hl j (.inr e)]
      have := h.fix j e hjn hcj
      unfold upd
      rw [if_neg hne]
      exact this
    · have e := List.mem_singleton.1 e
      subst e
      rw [hl j (.inl rfl)]
      unfold upd
      rw [if_pos rfl]
      exact ⟨rfl, hv⟩
  · unfold upd
    rcases hj with hj | hj
    · have hne : j ≠ i := fun e => hj (by rw [e]; simp)
      rw [if_neg hne]
      exact h.off j (.inl fun e => hj (List.mem_append_left _ e))
    · have hne : j ≠ i := fun e => by rw [e, hc] at hj; cases hj
      rw [if_neg hne]
      exact h.off j (.inr hj)
theorem Gm.Mid.skip {pre : List Nat} (h : g.Mid pre P) {i : Nat} (hc : g.cnt i = false) : g.Mid (pre ++ [i]) P := by
  refine ⟨fun j hj hjn hcj => ?_, fun j hj => ?_⟩
  · rcases List.mem_append.1 hj with e | e
    · exact h.fix j e hjn hcj
    · rw [List.mem_singleton.1 e, hc] at hcj; cases hcj
  · rcases hj with hj | hj
    · exact h.off j (.inl fun e => hj (List.mem_append_left _ e))
    · exact h.off j (.inr hj)
theorem Gm.Mid.start (g : Gm) : g.Mid [] (fun _ => -1) := ⟨fun _ h => (by cases h), fun _ _ => rfl⟩
/-- What comes out, if something does. -/
theorem Gm.run_mid (hM : g.May V) : ∀ (post pre : List Nat) (P : Nat → Int), g.Mid pre P → (pre ++ post).Nodup → (∀ i, i ∈ pre ++ post → i < g.n) → (pre ++ post).Pairwise (fun a b => g.st a ≤ g.st b) → (g.run post P).2 = 0 → g.Mid (pre ++ post) (g.run post P).1
  | [], pre, P, h, _, _, _, _ => by rw [List.append_nil]; exact h
  | i :: r, pre, P, h, hn, hr, hp, he => by
    have e1 : pre ++ i :: r = (pre ++ [i]) ++ r := by simp
    have hin : i ∉ pre := fun e => by
      have := (List.nodup_append.1 hn).2.2 i e i (by simp)
      exact this rfl
    have hi := hr i (by simp)
    unfold Gm.run at he ⊢
    cases hc : g.cnt i
    · rw [if_neg (by simp [hc])] at he ⊢
      rw [e1] at hn hr hp ⊢
      exact Gm.run_mid hM r (pre ++ [i]) P (h.skip hc) hn hr hp he
    · rw [if_pos (by simp [hc])] at he ⊢
      by_cases hv : g.pl i (g.lst P i g.n) < 0
      · rw [if_pos hv] at he; cases he
      · rw [if_neg hv] at he ⊢
        have hs : ∀ j, j ∈ pre → g.st j ≤ g.st i := fun j hj => (List.pairwise_append.1 hp).2.2 j hj i (by simp)
        rw [e1] at hn hr hp ⊢
        exact Gm.run_mid hM r (pre ++ [i]) _ (h.step hM hi hin hs hc (by omega)) hn hr hp he
/-- If right places are there, the run comes through, and is nowhere above them. -/
theorem Gm.run_valid (hM : g.May V) (hQ : g.Valid V Q) : ∀ (post : List Nat) (P : Nat → Int), (∀ i, i ∈ post → i < g.n) → (∀ i, i < g.n → g.cnt i = true → P i ≤ Q i) → (g.run post P).2 = 0 ∧ ∀ i, i < g.n → g.cnt i = true → (g.run post P).1 i ≤ Q i
  | [], P, _, h => ⟨rfl, h⟩
  | i :: r, P, hr, h => by
    have hi := hr i (by simp)
    have hr' : ∀ j, j ∈ r → j < g.n := fun j hj => hr j (by simp [hj])
    unfold Gm.run
    cases hc : g.cnt i
    · rw [if_neg (by simp)]
      exact Gm.run_valid hM hQ r P hr' h
    · rw [if_pos (by simp)]
      have hm := hQ.may i hi hc
      have hle : g.lst P i g.n ≤ Q i ∧ (g.app i = true → g.lst P i g.n < Q i) := by
        rcases g.lst_of P i g.n with e | ⟨j, h1, h2, h3, h4⟩
        · rw [e]
          exact ⟨hM.low i _ hm, fun ha => by have := hM.one i _ ha hm; omega⟩
        · have h5 := h j h1 h2
          have h6 := hQ.ord j i h1 hi h2 hc h3
          rw [h4]
          exact ⟨by omega, fun ha => by have := h6.2 ha; omega⟩
      obtain ⟨h7, h8⟩ := hM.least i _ (Q i) hi (g.lst_nonneg P i g.n) hm hle.1 hle.2
      rw [if_neg (by omega)]
      refine Gm.run_valid hM hQ r _ hr' fun j hj hcj => ?_
      unfold upd
      split
      · rename_i e; subst e; exact h8
      · exact h j hj hcj
/-- Places that the run gave are right. -/
theorem Gm.Mid.valid (hM : g.May V) {ord : List Nat} (h : g.Mid ord P) (ha : ∀ i, i < g.n → i ∈ ord) : g.Valid V P := by
  refine ⟨fun i hi hc => ?_, fun i k hi hk hci hck he => ?_⟩
  · obtain ⟨e, h0⟩ := h.fix i (ha i hi) hi hc
    have := hM.yes i (g.lst P i g.n) hi (g.lst_nonneg P i g.n) (by rw [← e]; exact h0)
    rw [← e] at this
    exact this.1
  · obtain ⟨e, h0⟩ := h.fix k (ha k hk) hk hck
    have h1 := hM.yes k (g.lst P k g.n) hk (g.lst_nonneg P k g.n) (by rw [← e]; exact h0)
    rw [← e] at h1
    have h2 := g.lst_at P k (j := i) (k := g.n) hi hci he
    exact ⟨by omega, fun hap => by have := h1.2.2 hap; omega⟩
/-- An order in which the ops may be gone through. -/
structure Gm.Order (g : Gm) (ord : List Nat) : Prop where
  perm : ord.Perm (List.range g.n)
  rise : ord.Pairwise (fun a b => g.st a ≤ g.st b)
theorem Gm.Order.mem {ord : List Nat} (h : g.Order ord) (i : Nat) : i ∈ ord ↔ i < g.n := by rw [h.perm.mem_iff, List.mem_range]
theorem Gm.Order.nodup {ord : List Nat} (h : g.Order ord) : ord.Nodup := h.perm.nodup_iff.2 List.nodup_range
/-- The run comes through if and only if there are right places. -/
theorem Gm.run_iff (hM : g.May V) {ord : List Nat} (h : g.Order ord) : (g.run ord (fun _ => -1)).2 = 0 ↔ ∃ Q, g.Valid V Q := by
  constructor
  · intro he
    have := Gm.run_mid hM ord [] _ (Gm.Mid.start g) h.nodup (fun i hi => (h.mem i).1 hi) h.rise he
    exact ⟨_, this.valid hM fun i hi => (h.mem i).2 hi⟩
  · rintro ⟨Q, hQ⟩
    exact (Gm.run_valid hM hQ ord _ (fun i hi => (h.mem i).1 hi) fun i hi hc => by have := hM.low i _ (hQ.may i hi hc); omega).1
/-- What comes out are the least right places; -1 where none counts. -/
theorem Gm.run_least (hM : g.May V) {ord : List Nat} (h : g.Order ord) (he : (g.run ord (fun _ => -1)).2 = 0) :
    g.Valid V (g.run ord (fun _ => -1)).1 ∧ (∀ i, g.cnt i = false → (g.run ord (fun _ => -1)).1 i = -1) ∧ ∀ Q, g.Valid V Q → ∀ i, i < g.n → g.cnt i = true → (g.run ord (fun _ => -1)).1 i ≤ Q i := by
  have hm := Gm.run_mid hM ord [] _ (Gm.Mid.start g) h.nodup (fun i hi => (h.mem i).1 hi) h.rise he
  exact ⟨hm.valid hM fun i hi => (h.mem i).2 hi, fun i hi => hm.off i (.inr hi), fun Q hQ => (Gm.run_valid hM hQ ord _ (fun i hi => (h.mem i).1 hi) fun i hi hc => by have := hM.low i _ (hQ.may i hi hc); omega).2⟩
/-- What the run tells of the first that has no place. -/
theorem Gm.run_bad : ∀ (post : List Nat) (P : Nat → Int), (∀ i, i ∈ post → i < g.n) → (g.run post P).2 ≤ g.n
  | [], _, _ => Nat.zero_le _
  | i :: r, P, h => by
    have := h i (by simp)
    unfold Gm.run
    split
    · split
      · show i + 1 ≤ g.n; omega
      · exact Gm.run_bad r _ fun j hj => h j (by simp [hj])
    · exact Gm.run_bad r _ fun j hj => h j (by simp [hj])
end Go.Proofs.YthdcnknjjbdefaaGreatDoor.His

/- Logs and ops: in plain words: what history.Check and history.Places tell; no program in sight. -/
namespace Go.Proofs.YthdcnknjjbdefaaGreatDoor.His
open Go.RowKit Go.Bl

/-- What entries make. -/
def stF (l : List Ent) : St := l.foldl (fun s a => (applyS s a).1) St.new
/-- The state behind k entries of a log; what the next one told. -/
def stK (log : List Ent) (k : Nat) : St := stF (log.take k)
theorem stK_zero (log : List Ent) : stK log 0 = St.new := rfl
theorem stK_succ {log : List Ent} {k : Nat} (h : k < log.length) : stK log (k + 1) = (applyS (stK log k) log[k]).1 := by
  unfold stK stF
  rw [List.take_succ_eq_append_getElem h, List.foldl_append]
  rfl
theorem stK_take {log : List Ent} {j k : Nat} (h : j ≤ k) : stK (log.take k) j = stK log j := by
  unfold stK
  rw [List.take_take, Nat.min_eq_left h]
/-- All its entries are taken. -/
def LogOk (log : List Ent) : Prop := ∀ k, ∀ h : k < log.length, (applyS (stK log k) log[k]).2.2 = 0
theorem LogOk.take {log : List Ent} (h : LogOk log) (n : Nat) : LogOk (log.take n) := fun k hk => by
  rw [List.length_take] at hk
  rw [stK_take (by omega), List.getElem_take]
  exact h k (by omega)
def outK (log : List Ent) (k : Nat) : Ded.Oc := match log[k]? with | some a => (applyS (stK log k) a).2.1 | none => Ded.oc0
theorem outK_at {log : List Ent} {k : Nat} (h : k < log.length) : outK log k = (applyS (stK log k) log[k]).2.1 := by unfold outK; rw [List.getElem?_eq_getElem h]
theorem outK_take {log : List Ent} {k n : Nat} (h : k < n) : outK (log.take n) k = outK log k := by
  unfold outK
  rw [List.getElem?_take_of_lt h, stK_take (by omega)]
def readS (s : St) (x : ByteArray) (k : Int) : List Ev := (((Idx.ofS s.L x).drop (max k 1 - 1).toNat).take 16).map Idx.Kp.e

/-- An op: what was asked, what was answered. -/
structure Hop where
  kind : Int
  id : Int
  start : Int
  end_ : Int
  bs : ByteArray
  bx : Int
  ses : Int
  seq : Int
  bev : Value
  out : Ded.Oc
  stream : ByteArray
  from_ : Int
  version : Int
  evv : Value
  evs : List Ev
def opc (o : Hop) : List Value := [.int .i64 o.kind, .int .i64 o.id, .int .i64 o.start, .int .i64 o.end_, .string o.bs, .int .i64 o.bx, .int .i64 o.ses, .int .i64 o.seq, o.bev, .int .i64 o.out.code, .int .i64 o.out.pos, .int .i64 o.out.first, .int .i64 o.out.ver, .string o.stream, .int .i64 o.from_, .int .i64 o.version, o.evv]
def Hop.zero : Hop := ⟨0, 0, 0, 0, ByteArray.empty, 0, 0, 0, .slice none 0 0, Ded.oc0, ByteArray.empty, 0, 0, .slice none 0 0, []⟩
instance : Inhabited Hop := ⟨Hop.zero⟩
theorem getD_at {ops : List Hop} {i : Nat} (h : i < ops.length) : ops.getD i default = ops[i] := by rw [List.getD_eq_getElem?_getD, List.getElem?_eq_getElem h, Option.getD_some]
def countsB (o : Hop) : Bool := decide (0 ≤ o.end_) && (decide (o.kind ≠ 1) || decide (o.out.code ≠ 3))
def reqB (a : Ent) (o : Hop) : Bool := decide (a.session = o.ses) && decide (a.seq = o.seq)
def seenB (s : St) (o : Hop) : Bool := decide (verS s o.stream = o.version) && decide (readS s o.stream o.from_ = o.evs)
/-- Is the place of an append right? -/
def appB (log : List Ent) (o : Hop) : Bool := match log[(o.out.pos - 1).toNat]? with | some a => decide (outK log (o.out.pos - 1).toNat = o.out) && reqB a o | none => false
/-- The first of f numbers from k on. -/
def findK (p : Nat → Bool) : Nat → Nat → Int
  | 0, _ => -1
  | f + 1, k => if p k = true then k else findK p f (k + 1)
def placeS (log : List Ent) (o : Hop) (m : Int) : Int :=
  if o.kind = 1 then (if o.out.pos ≤ m ∨ (log.length : Int) < o.out.pos ∨ appB log o = false then -1 else o.out.pos)
  else findK (fun k => seenB (stK log k) o) (log.length + 1 - m.toNat) m.toNat
/-- The run of ops over a log. -/
def gm (log : List Ent) (ops : List Hop) : Gm :=
  ⟨ops.length, fun i => countsB (ops.getD i default), fun i => (ops.getD i default).start, fun i => (ops.getD i default).end_, fun i => decide ((ops.getD i default).kind = 1), fun i m => placeS log (ops.getD i default) m⟩
/-- The places that an op may have by itself. -/
def MayS (log : List Ent) (o : Hop) (k : Int) : Prop :=
  if o.kind = 1 then k = o.out.pos ∧ 1 ≤ k ∧ k ≤ log.length ∧ appB log o = true else 0 ≤ k ∧ k ≤ log.length ∧ seenB (stK log k.toNat) o = true
def mayV (log : List Ent) (ops : List Hop) (i : Nat) (k : Int) : Prop := MayS log (ops.getD i default) k

theorem findK_yes (p : Nat → Bool) : ∀ (f k : Nat), 0 ≤ findK p f k → ∃ j : Nat, findK p f k = j ∧ k ≤ j ∧ j < k + f ∧ p j = true
  | 0, _, h => by unfold findK at h; omega
  | f + 1, k, h => by
    unfold findK at h ⊢
    split
    · rename_i hp
      exact ⟨k, rfl, Nat.le_refl _, by omega, hp⟩
    · rename_i hp
      rw [if_neg hp] at h
      obtain ⟨j, h1, h2, h3, h4⟩ := findK_yes p f (k + 1) h
      exact ⟨j, h1, by omega, by omega, h4⟩
theorem findK_least (p : Nat → Bool) : ∀ (f k j : Nat), k ≤ j → j < k + f → p j = true → 0 ≤ findK p f k ∧ findK p f k ≤ j
  | 0, k, j, h1, h2, _ => by omega
  | f + 1, k, j, h1, h2, h3 => by
    unfold findK
    split
    · omega
    · rename_i hp
      by_cases e : k = j
      · subst e; exact absurd h3 hp
      · exact findK_least p f (k + 1) j (by omega) (by omega) h3
/-- Which places, and that placeS finds the least. -/
theorem gm_may (log : List Ent) (ops : List Hop) (hs : ∀ o ∈ ops, countsB o = true → o.start ≤ o.end_) : (gm log ops).May (mayV log ops) := by
  refine ⟨fun i k h => ?_, fun i k ha h => ?_, fun i m hi hm h0 => ?_, fun i m k hi hm hv hk ha => ?_, fun i hi hc => ?_⟩
  · unfold mayV MayS at h
    split at h
    · omega
    · omega
  · unfold mayV MayS at h
    have ha : (ops.getD i default).kind = 1 := of_decide_eq_true ha
    rw [if_pos ha] at h
    exact h.2.1
  · have h0 : 0 ≤ placeS log (ops.getD i default) m := h0
    show mayV log ops i (placeS log (ops.getD i default) m) ∧ m ≤ placeS log (ops.getD i default) m ∧ (decide ((ops.getD i default).kind = 1) = true → m < placeS log (ops.getD i default) m)
    unfold mayV MayS
    generalize ops.getD i default = o at h0 ⊢
    unfold placeS at h0 ⊢
    by_cases ho : o.kind = 1
    · simp only [if_pos ho] at h0 ⊢
      by_cases hc : o.out.pos ≤ m ∨ (log.length : Int) < o.out.pos ∨ appB log o = false
      · rw [if_pos hc] at h0; omega
      · rw [if_neg hc] at h0 ⊢
        have hb : appB log o = true := by
          cases hb : appB log o
          · exact absurd (.inr (.inr hb)) hc
          · rfl
        exact ⟨⟨rfl, by omega, by omega, hb⟩, by omega, fun _ => by omega⟩
    · simp only [if_neg ho] at h0 ⊢
      obtain ⟨j, h1, h2, h3, h4⟩ := findK_yes _ _ _ h0
      rw [h1]
      have e : ((j : Int)).toNat = j := by omega
      exact ⟨⟨by omega, by omega, by rw [e]; exact h4⟩, by omega, fun ha => absurd (of_decide_eq_true ha) ho⟩
  · have ha : decide ((ops.getD i default).kind = 1) = true → m < k := ha
    show 0 ≤ placeS log (ops.getD i default) m ∧ placeS log (ops.getD i default) m ≤ k
    unfold mayV MayS at hv
    generalize ops.getD i default = o at hv ha ⊢
    unfold placeS
    by_cases ho : o.kind = 1
    · rw [if_pos ho] at hv ⊢
      have := ha (decide_eq_true ho)
      obtain ⟨h1, h2, h3, h4⟩ := hv
      rw [if_neg (by rw [h4]; simp; omega)]
      omega
    · rw [if_neg ho] at hv ⊢
      obtain ⟨h1, h2, h3⟩ := hv
      have := findK_least (fun k => seenB (stK log k) o) (log.length + 1 - m.toNat) m.toNat k.toNat (by omega) (by omega) h3
      omega
  · show (ops.getD i default).start ≤ (ops.getD i default).end_
    have hi : i < ops.length := hi
    have hc : countsB (ops.getD i default) = true := hc
    rw [getD_at hi] at hc ⊢
    exact hs _ (List.getElem_mem hi) hc
end Go.Proofs.YthdcnknjjbdefaaGreatDoor.His

/- Right places of other ops, over other logs: in plain words; no program in sight. -/
namespace Go.Proofs.YthdcnknjjbdefaaGreatDoor.His
open Go.RowKit Go.Bl

/-- All ops that count have right places. -/
def Fine (log : List Ent) (ops : List Hop) : Prop := ∃ Q, (gm log ops).Valid (mayV log ops) Q
def Spans (ops : List Hop) : Prop := ∀ o ∈ ops, countsB o = true → o.start ≤ o.end_
/-- Ops that are all among other ops, as far as they count. -/
theorem valid_map {log : List Ent} {ops ops' : List Hop} {Q : Nat → Int} (f : Nat → Nat) (hf : ∀ i, i < ops'.length → countsB (ops'.getD i default) = true → f i < ops.length ∧ ops'.getD i default = ops.getD (f i) default) (h : (gm log ops).Valid (mayV log ops) Q) :
    (gm log ops').Valid (mayV log ops') (fun i => Q (f i)) := by
  refine ⟨fun i hi hc => ?_, fun i k hi hk hci hck he => ?_⟩
  · obtain ⟨h1, h2⟩ := hf i hi hc
    have := h.may (f i) h1 (by show countsB (ops.getD (f i) default) = true; rw [← h2]; exact hc)
    show MayS log (ops'.getD i default) (Q (f i))
    rw [h2]
    exact this
  · obtain ⟨h1, h2⟩ := hf i hi hci
    obtain ⟨h3, h4⟩ := hf k hk hck
    have := h.ord (f i) (f k) h1 h3 (by show countsB (ops.getD (f i) default) = true; rw [← h2]; exact hci) (by show countsB (ops.getD (f k) default) = true; rw [← h4]; exact hck)
      (by show (ops.getD (f i) default).end_ < (ops.getD (f k) default).start; rw [← h2, ← h4]; exact he)
    refine ⟨this.1, fun ha => this.2 ?_⟩
    show decide ((ops.getD (f k) default).kind = 1) = true
    rw [← h4]
    exact ha
theorem Fine.map {log : List Ent} {ops ops' : List Hop} (h : Fine log ops) (f : Nat → Nat) (hf : ∀ i, i < ops'.length → countsB (ops'.getD i default) = true → f i < ops.length ∧ ops'.getD i default = ops.getD (f i) default) : Fine log ops' := by
  obtain ⟨Q, h⟩ := h
  exact ⟨_, valid_map f hf h⟩
theorem getD_append_left {A B : List Hop} {i : Nat} (h : i < A.length) : (A ++ B).getD i default = A.getD i default := by
  rw [List.getD_eq_getElem?_getD, List.getD_eq_getElem?_getD, List.getElem?_append_left h]
theorem getD_append_right {A B : List Hop} {i : Nat} (h : A.length ≤ i) : (A ++ B).getD i default = B.getD (i - A.length) default := by
  rw [List.getD_eq_getElem?_getD, List.getD_eq_getElem?_getD, List.getElem?_append_right h]
/-- In whatever order the two parts stand. -/
theorem Fine.swap {log : List Ent} {A B : List Hop} (h : Fine log (A ++ B)) : Fine log (B ++ A) := by
  refine h.map (fun i => if i < B.length then i + A.length else i - B.length) fun i hi _ => ?_
  rw [List.length_append] at hi
  by_cases hb : i < B.length
  · rw [if_pos hb, getD_append_left hb, getD_append_right (by omega), List.length_append]
    exact ⟨by omega, by rw [Nat.add_sub_cancel]⟩
  · rw [if_neg hb, getD_append_right (by omega), getD_append_left (by omega), List.length_append]
    exact ⟨by omega, rfl⟩
theorem fine_turn (log : List Ent) (ops : List Hop) (k : Nat) : Fine log (ops.drop k ++ ops.take k) ↔ Fine log ops := by
  constructor
  · intro h
    have := h.swap
    rwa [List.take_append_drop] at this
  · intro h
    rw [← List.take_append_drop k ops] at h
    exact h.swap
/-- Each op, and behind it one that does not count. -/
def openL (f : Hop → Hop) : List Hop → List Hop
  | [] => []
  | o :: l => o :: f o :: openL f l
theorem openL_length (f : Hop → Hop) : ∀ l, (openL f l).length = 2 * l.length
  | [] => rfl
  | o :: l => by
    simp only [openL, List.length_cons, openL_length f l]
    omega
theorem openL_even (f : Hop → Hop) : ∀ (l : List Hop) (i : Nat), i < l.length → (openL f l).getD (2 * i) default = l.getD i default
  | [], _, h => by simp at h
  | o :: l, 0, _ => rfl
  | o :: l, i + 1, h => by
    have := openL_even f l i (by simpa using h)
    rw [show 2 * (i + 1) = 2 * i + 1 + 1 by omega]
    exact this
theorem openL_odd (f : Hop → Hop) : ∀ (l : List Hop) (i : Nat), i < l.length → (openL f l).getD (2 * i + 1) default = f (l.getD i default)
  | [], _, h => by simp at h
  | o :: l, 0, _ => rfl
  | o :: l, i + 1, h => by
    have := openL_odd f l i (by simpa using h)
    rw [show 2 * (i + 1) + 1 = 2 * i + 1 + 1 + 1 by omega]
    exact this
theorem fine_open (log : List Ent) (ops : List Hop) (f : Hop → Hop) (hf : ∀ o, countsB (f o) = false) : Fine log (openL f ops) ↔ Fine log ops := by
  constructor
  · intro h
    refine h.map (fun i => 2 * i) fun i hi _ => ⟨by rw [openL_length]; omega, (openL_even f ops i hi).symm⟩
  · intro h
    refine h.map (fun i => i / 2) fun i hi hc => ?_
    rw [openL_length] at hi
    rcases Nat.mod_two_eq_zero_or_one i with e | e
    · have hi2 : i = 2 * (i / 2) := by omega
      refine ⟨by omega, ?_⟩
      conv => lhs; rw [hi2]
      exact openL_even f ops (i / 2) (by omega)
    · have hi2 : i = 2 * (i / 2) + 1 := by omega
      rw [hi2, openL_odd f ops (i / 2) (by omega), hf] at hc
      cases hc
theorem Fine.tail {log : List Ent} {o : Hop} {ops : List Hop} (h : Fine log (o :: ops)) : Fine log ops :=
  h.map (fun i => i + 1) fun i hi _ => ⟨by simp only [List.length_cons]; omega, by
    rw [List.getD_eq_getElem?_getD, List.getD_eq_getElem?_getD, List.getElem?_cons_succ]⟩
/-- A log that goes on. -/
theorem may_more {log : List Ent} {o : Hop} {k : Int} {n : Nat} (h : MayS (log.take n) o k) : MayS log o k := by
  have hl : (log.take n).length ≤ log.length := by rw [List.length_take]; omega
  have hn : (log.take n).length ≤ n := by rw [List.length_take]; omega
  unfold MayS at h ⊢
  split
  · rename_i ho
    rw [if_pos ho] at h
    obtain ⟨h1, h2, h3, h4⟩ := h
    refine ⟨h1, h2, by omega, ?_⟩
    unfold appB at h4 ⊢
    rw [List.getElem?_take_of_lt (by omega), outK_take (by omega)] at h4
    exact h4
  · rename_i ho
    rw [if_neg ho] at h
    obtain ⟨h1, h2, h3⟩ := h
    rw [stK_take (by omega)] at h3
    exact ⟨h1, by omega, h3⟩
theorem Fine.more {log : List Ent} {ops : List Hop} {n : Nat} (h : Fine (log.take n) ops) : Fine log ops := by
  obtain ⟨Q, hQ⟩ := h
  exact ⟨Q, fun i hi hc => may_more (hQ.may i hi hc), hQ.ord⟩
/-- How many are said to be done, and are not there. -/
def lostB (log : List Ent) (o : Hop) : Bool := decide (o.kind = 1) && (decide (0 ≤ o.end_) && (decide (o.out.code = 1) && !(decide (1 ≤ o.out.pos) && (match log[(o.out.pos - 1).toNat]? with | some a => reqB a o | none => false))))
def lostN (log : List Ent) (ops : List Hop) : Nat := (ops.filter (lostB log)).length
/-- What counts and has its place is there. -/
theorem Fine.lost {log : List Ent} {ops : List Hop} (h : Fine log ops) : lostN log ops = 0 := by
  obtain ⟨Q, hQ⟩ := h
  unfold lostN
  rw [List.length_eq_zero_iff, List.filter_eq_nil_iff]
  intro o ho hl
  obtain ⟨i, hi, rfl⟩ := List.mem_iff_getElem.1 ho
  unfold lostB at hl
  simp only [Bool.and_eq_true, decide_eq_true_eq, Bool.not_eq_true', Bool.and_eq_false_iff, decide_eq_false_iff_not] at hl
  obtain ⟨h1, h2, h3, h4⟩ := hl
  have hc : (gm log ops).cnt i = true := by
    show countsB (ops.getD i default) = true
    rw [getD_at hi]
    unfold countsB
    simp [h2, h3]
  have hm := hQ.may i hi hc
  unfold mayV MayS at hm
  rw [getD_at hi, if_pos h1] at hm
  obtain ⟨m1, m2, m3, m4⟩ := hm
  unfold appB at m4
  rcases h4 with h4 | h4
  · omega
  · split at m4
    · rename_i a ha
      rw [ha] at h4
      have h4 : reqB a ops[i] = false := h4
      simp only [Bool.and_eq_true] at m4
      rw [m4.2] at h4
      cases h4
    · cases m4
end Go.Proofs.YthdcnknjjbdefaaGreatDoor.His

namespace Go.Proofs.YthdcnknjjbdefaaGreatDoor.His
open Go.RowKit Go.Bl

theorem apply_zero {s : St} {a : Ent} (h : (applyS s a).2.2 = 0) : rightB a = true ∧ a.pos = s.ap + 1 := by
  by_cases h1 : rightB a = false
  · have := (apply_err (s := s) (.inl h1)).2.2; omega
  · by_cases h2 : a.pos = s.ap + 1
    · exact ⟨by simpa using h1, h2⟩
    · have := (apply_err (a := a) (.inr h2)).2.2; omega
theorem LogOk.ap {log : List Ent} (h : LogOk log) : ∀ k, k ≤ log.length → (stK log k).ap = k
  | 0, _ => rfl
  | k + 1, hk => by
    have h0 := h k (by omega)
    rw [stK_succ (by omega), (apply_grows (stK log k) log[k]).2.2.2 h0, h.ap k (by omega)]
    omega
theorem LogOk.pos {log : List Ent} (h : LogOk log) {k : Nat} (hk : k < log.length) : log[k].pos = k + 1 := by
  have := (apply_zero (h k hk)).2
  rw [h.ap k (by omega)] at this
  exact this
theorem LogOk.len {log : List Ent} (h : LogOk log) : ∀ k, k ≤ log.length → (stK log k).L.length ≤ 8 * k ∧ (stK log k).T.length ≤ k
  | 0, _ => ⟨Nat.zero_le _, Nat.zero_le _⟩
  | k + 1, hk => by
    have h1 := h.len k (by omega)
    have h2 := apply_grows (stK log k) log[k]
    rw [stK_succ (by omega)]
    omega
/-- What is known: it was told by the entry at that place, of the same request. -/
def Known (log : List Ent) (T : List Ded.En) (k : Nat) : Prop := ∀ e ∈ T, ∃ j : Nat, ∃ h : j < log.length, e.o.pos = j + 1 ∧ j < k ∧ log[j].session = e.ses ∧ log[j].seq = e.seq
theorem findL_mem {T : List Ded.En} {x y : Int} {o : Ded.Oc} (h : Ded.findL T x y = some o) : ∃ e ∈ T, e.ses = x ∧ e.seq = y ∧ e.o = o := by
  unfold Ded.findL at h
  rw [Option.map_eq_some_iff] at h
  obtain ⟨e, he, ho⟩ := h
  have h1 := List.mem_of_find?_eq_some he
  have h2 := List.find?_some he
  simp only [Bool.and_eq_true, decide_eq_true_eq] at h2
  exact ⟨e, h1, h2.1, h2.2, ho⟩
theorem freshO_pos (s : St) (a : Ent) : (freshO s a).pos = a.pos := by unfold freshO; split <;> rfl
theorem LogOk.known {log : List Ent} (h : LogOk log) : ∀ k, k ≤ log.length → Known log (stK log k).T k
  | 0, _ => fun e he => by cases he
  | k + 1, hk => by
    have ih := h.known k (by omega)
    have h0 := h k (by omega)
    have hp := h.pos (k := k) (by omega)
    obtain ⟨h1, h2⟩ := apply_zero h0
    have ih' : Known log (stK log k).T (k + 1) := fun e he => by
      obtain ⟨j, hj, e1, e2, e3⟩ := ih e he
      exact ⟨j, hj, e1, by omega, e3⟩
    rw [stK_succ (by omega)]
    rcases apply_next h1 h2 with ⟨o, _, _, _, e⟩ | ⟨_, _, e⟩ | ⟨_, _, _, e⟩ <;> rw [e]
    · exact ih'
    · exact ih'
    · intro x hx
      rcases List.mem_append.1 hx with hx | hx
      · exact ih' x hx
      · rw [List.mem_singleton.1 hx]
        exact ⟨k, by omega, by rw [freshO_pos, hp], by omega, rfl, rfl⟩
/-- What an entry was told, if not that it is stale: of which entry. -/
theorem LogOk.told {log : List Ent} (h : LogOk log) {k : Nat} (hk : k < log.length) (hs : (outK log k).code ≠ 3) : ∃ j : Nat, ∃ hj : j < log.length, (outK log k).pos = j + 1 ∧ j ≤ k ∧ log[j].session = log[k].session ∧ log[j].seq = log[k].seq := by
  have h0 := h k hk
  obtain ⟨h1, h2⟩ := apply_zero h0
  rw [outK_at hk] at hs ⊢
  rcases apply_next h1 h2 with ⟨o, _, hf, _, e⟩ | ⟨_, _, e⟩ | ⟨_, _, _, e⟩ <;> rw [e] at hs ⊢
  · obtain ⟨x, hx, e1, e2, e3⟩ := findL_mem hf
    obtain ⟨j, hj, f1, f2, f3, f4⟩ := h.known k (by omega) x hx
    exact ⟨j, hj, by rw [← e3]; exact f1, by omega, f3.trans e1, f4.trans e2⟩
  · exact absurd rfl hs
  · exact ⟨k, hk, by show (freshO _ _).pos = _; rw [freshO_pos, h.pos hk], Nat.le_refl _, rfl, rfl⟩

/-- A log's next entry, of a batch. -/
def nextE (log : List Ent) (a : Ent) : Ent := { a with pos := (log.length : Int) + 1, epoch := 1 }
/-- The row of those that are taken, up to six. -/
def rowS (log : List Ent) (a : Ent) : List Ent := if log.length < 6 ∧ (applyS (stF log) (nextE log a)).2.2 = 0 then log ++ [nextE log a] else log
def rowL (l : List Ent) : List Ent := l.foldl rowS []
theorem stF_snoc (l : List Ent) (a : Ent) : stF (l ++ [a]) = (applyS (stF l) a).1 := by unfold stF; rw [List.foldl_append]; rfl
theorem stK_all (l : List Ent) : stK l l.length = stF l := by unfold stK; rw [List.take_length]
theorem LogOk.snoc {log : List Ent} (h : LogOk log) {a : Ent} (ha : (applyS (stF log) a).2.2 = 0) : LogOk (log ++ [a]) := fun k hk => by
  rw [List.length_append, List.length_singleton] at hk
  have ht : stK (log ++ [a]) k = stK log k := by
    unfold stK
    rw [List.take_append_of_le_length (by omega)]
  rw [ht]
  by_cases e : k < log.length
  · rw [List.getElem_append_left e]
    exact h k e
  · have e2 : k = log.length := by omega
    subst e2
    rw [stK_all, List.getElem_append_right (Nat.le_refl _)]
    simpa using ha
theorem rowS_ok {log : List Ent} (h : LogOk log ∧ log.length ≤ 6) (a : Ent) : LogOk (rowS log a) ∧ (rowS log a).length ≤ 6 := by
  unfold rowS
  split
  · rename_i hc
    exact ⟨h.1.snoc hc.2, by rw [List.length_append, List.length_singleton]; omega⟩
  · exact h
theorem rowL_ok (l : List Ent) : LogOk (rowL l) ∧ (rowL l).length ≤ 6 := by
  unfold rowL
  have : ∀ (l acc : List Ent), LogOk acc ∧ acc.length ≤ 6 → LogOk (l.foldl rowS acc) ∧ (l.foldl rowS acc).length ≤ 6 := by
    intro l
    induction l with
    | nil => intro acc h; exact h
    | cons a l ih => intro acc h; exact ih _ (rowS_ok h a)
  exact this l [] ⟨fun k hk => (by cases hk), by simp⟩
/-- Where an entry of a row came from. -/
theorem row_epoch : ∀ (l : List Ent), ∀ e ∈ rowL l, e.epoch = 1 := by
  unfold rowL
  have : ∀ (l acc : List Ent), (∀ e ∈ acc, e.epoch = 1) → ∀ e ∈ l.foldl rowS acc, e.epoch = 1 := by
    intro l
    induction l with
    | nil => intro acc h; exact h
    | cons a l ih =>
      intro acc h
      refine ih _ fun e he => ?_
      unfold rowS at he
      split at he
      · rcases List.mem_append.1 he with he | he
        · exact h e he
        · rw [List.mem_singleton.1 he]; rfl
      · exact h e he
  exact fun l => this l [] fun e he => by cases he

/-- A raw op. -/
structure Rw where
  start : Int
  long : Int
  at_ : Int
  off : Int
  read : Bool
  stream : ByteArray
  from_ : Int
def rwc (r : Rw) : List Value := [.int .i64 r.start, .int .i64 r.long, .int .i64 r.at_, .int .i64 r.off, .bool r.read, .string r.stream, .int .i64 r.from_]
def pickOf (c n : Int) : Int := (if c < 0 then -(c + 1) else c) % n
theorem pickOf_range (c : Int) {n : Int} (hn : 1 ≤ n) : 0 ≤ pickOf c n ∧ pickOf c n < n := ⟨Int.emod_nonneg _ (by omega), Int.emod_lt_of_pos _ (by omega)⟩
/-- Which entry a raw op speaks of. -/
def atP (log : List Ent) (r : Rw) : Nat := (pickOf r.at_ (log.length + 1)).toNat
theorem atP_le (log : List Ent) (r : Rw) : atP log r ≤ log.length := by
  have := pickOf_range r.at_ (n := (log.length : Int) + 1) (by omega)
  unfold atP
  omega
def startP (r : Rw) : Int := pickOf r.start 30
def endP (r : Rw) : Int := if r.long < 0 then -1 else startP r + pickOf r.long 12
def fromP (r : Rw) : Int := max 0 (min r.from_ 99)
/-- The op, but for the values of its events. -/
structure OpIs (log : List Ent) (r : Rw) (id : Int) (o : Hop) : Prop where
  id : o.id = id
  start : o.start = startP r
  end_ : o.end_ = endP r
  stream : o.stream = r.stream
  from_ : o.from_ = fromP r
  asRead : (r.read = true ∨ atP log r = 0) → o.kind = 2 ∧ o.evs = readS (stK log (atP log r)) r.stream (fromP r) ∧ o.version = (if pickOf r.off 7 = 0 then pickOf r.off 5 else verS (stK log (atP log r)) r.stream) ∧ o.out = Ded.oc0 ∧ o.ses = 0 ∧ o.seq = 0
  asApp : ∀ k, atP log r = k + 1 → r.read = false → ∀ h : k < log.length, o.kind = 1 ∧ o.evs = [] ∧ o.ses = log[k].session ∧ o.bs = log[k].stream ∧
    o.seq = log[k].seq + (if pickOf r.off 8 = 2 then 1 else 0) ∧ o.out = (if pickOf r.off 8 = 0 then { outK log k with pos := pickOf r.off 9 - 1 } else if pickOf r.off 8 = 1 then { outK log k with ver := (outK log k).ver + 1 } else outK log k)
theorem OpIs.kind {log : List Ent} {r : Rw} {id : Int} {o : Hop} (h : OpIs log r id o) : o.kind = 1 ∨ o.kind = 2 := by
  by_cases e : r.read = true ∨ atP log r = 0
  · exact .inr (h.asRead e).1
  · obtain ⟨k, hk⟩ : ∃ k, atP log r = k + 1 := ⟨atP log r - 1, by have : atP log r ≠ 0 := fun h0 => e (.inr h0); omega⟩
    have hr : r.read = false := by
      cases hr : r.read
      · rfl
      · exact absurd (.inl hr) e
    exact .inl (h.asApp k hk hr (by have := atP_le log r; omega)).1
theorem OpIs.span {log : List Ent} {r : Rw} {id : Int} {o : Hop} (h : OpIs log r id o) (hc : countsB o = true) : o.start ≤ o.end_ := by
  unfold countsB at hc
  simp only [Bool.and_eq_true, decide_eq_true_eq] at hc
  have h1 := hc.1
  have := pickOf_range r.long (n := 12) (by omega)
  have hp := pickOf_range r.start (n := 30) (by omega)
  rw [h.end_, endP] at h1
  rw [h.start, h.end_, endP]
  unfold startP at *
  split at h1 <;> split <;> omega
/-- Ops of raw ones, told as they were: lost are those beyond the cut. -/
theorem OpIs.lost {log : List Ent} {r : Rw} {id : Int} {o : Hop} (hl : LogOk log) (h : OpIs log r id o) (h0 : pickOf r.off 8 = 3) (n : Nat) :
    lostB (log.take n) o = (decide (o.kind = 1) && (decide (0 ≤ o.end_) && (decide (o.out.code = 1) && decide ((n : Int) < o.out.pos)))) := by
  unfold lostB
  by_cases hk : o.kind = 1
  · by_cases he : 0 ≤ o.end_
    · by_cases hc : o.out.code = 1
      · rw [decide_eq_true hk, decide_eq_true he, decide_eq_true hc, Bool.true_and, Bool.true_and, Bool.true_and, Bool.true_and, Bool.true_and, Bool.true_and]
        by_cases e : r.read = true ∨ atP log r = 0
        · have := (h.asRead e).1; omega
        · obtain ⟨k, hk1⟩ : ∃ k, atP log r = k + 1 := ⟨atP log r - 1, by have : atP log r ≠ 0 := fun h0 => e (.inr h0); omega⟩
          have hr : r.read = false := by
            cases hr : r.read
            · rfl
            · exact absurd (.inl hr) e
          have hkl : k < log.length := by have := atP_le log r; omega
          obtain ⟨_, _, e1, _, e2, e3⟩ := h.asApp k hk1 hr hkl
          rw [h0] at e2 e3
          have e2 : o.seq = log[k].seq := by simpa using e2
          have e3 : o.out = outK log k := by simpa using e3
          obtain ⟨j, hj, f1, _, f2, f3⟩ := hl.told hkl (by rw [← e3, hc]; decide)
          rw [e3, f1, show ((j : Int) + 1 - 1).toNat = j by omega, decide_eq_true (show (1 : Int) ≤ (j : Int) + 1 by omega), Bool.true_and]
          by_cases hn : j < n
          · rw [List.getElem?_take_of_lt hn, List.getElem?_eq_getElem hj]
            have : reqB log[j] o = true := by unfold reqB; rw [f2, f3, e1, e2]; simp
            show (!reqB log[j] o) = _
            rw [this, decide_eq_false (by omega)]
            rfl
          · rw [List.getElem?_eq_none (by rw [List.length_take]; omega), decide_eq_true (by omega)]
            rfl
      · rw [decide_eq_false hc]; simp
    · rw [decide_eq_false he]; simp
  · rw [decide_eq_false hk]; simp
end Go.Proofs.YthdcnknjjbdefaaGreatDoor.His
