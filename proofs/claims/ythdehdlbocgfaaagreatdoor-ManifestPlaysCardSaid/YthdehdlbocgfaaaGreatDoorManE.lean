/- Files written as a whole, and the epochs' file, in plain words. Under the stated premises. -/
import Derived.Test.YthdehdlbocgfaaaGreatDoorManD
import Derived.Test.YthdehdlbocgfaaaGreatDoorDskM
namespace Go.Proofs.YthdehdlbocgfaaaGreatDoor
open Go.RowKit Go.Bl

theorem temp_name : nameB sTemp = true := by kernel_rfl
theorem mark_name : nameB sMark = true := by kernel_rfl
theorem file_name : nameB sFile = true := by kernel_rfl
theorem mark_temp : sMark ≠ sTemp := by decide
theorem file_temp : sFile ≠ sTemp := by decide
theorem mark_file : sMark ≠ sFile := by decide
theorem dk_eta (d : Dk) : (⟨d.room, d.L⟩ : Dk) = d := rfl
/-- All but temp and x. -/
def restL (L : List Fl) (x : ByteArray) : List Fl := (L.filter fun f => decide (f.name ≠ sTemp)).filter fun f => decide (f.name ≠ x)
theorem restL_temp {L : List Fl} {x : ByteArray} : ∀ f ∈ restL L x, f.name ≠ sTemp := fun f hf => by simpa using (List.mem_filter.1 (List.mem_filter.1 hf).1).2
theorem del_temp (d : Dk) : ∀ f ∈ (d.del sTemp).L, f.name ≠ sTemp := fun f hf => by simpa using (List.mem_filter.1 hf).2
/-- A file written as a whole where there is room. -/
theorem wr_ok {d : Dk} {x s : ByteArray} (hx : nameB x = true) (hne : x ≠ sTemp) (hl : d.L.length < 40) (hr : ¬ d.room - (d.del sTemp).used < s.size) : d.wr x s = (0, ⟨d.room, restL d.L x ++ [⟨x, s, s.size⟩]⟩) := by
  have hl2 : (d.del sTemp).L.length < 40 := Nat.lt_of_le_of_lt (List.length_filter_le _ _) hl
  have ha : (d.del sTemp).app sTemp s = (0, dkL d.room (d.del sTemp).L sTemp s 0) := app_new (room := d.room) (L := (d.del sTemp).L) temp_name (del_temp d) hl2 hr
  unfold Dk.wr
  rw [ha, if_pos rfl]
  show (((dkL d.room (d.del sTemp).L sTemp s 0).sync sTemp).ren sTemp x) = _
  rw [sync_last (del_temp d)]
  unfold Dk.ren
  rw [find_last (del_temp d)]
  show (if _ then _ else _) = _
  rw [if_neg (by rw [hx]; decide), if_neg (fun e => hne e.symm)]
  show ((0 : Int), (⟨d.room, (((dkL d.room (d.del sTemp).L sTemp s s.size).del x).del sTemp).L ++ [⟨x, s, s.size⟩]⟩ : Dk)) = _
  congr 2
  congr 1
  show (((d.del sTemp).L ++ [(⟨sTemp, s, s.size⟩ : Fl)]).filter (fun f => decide (f.name ≠ x))).filter (fun f => decide (f.name ≠ sTemp)) = restL d.L x
  rw [List.filter_append, List.filter_append]
  have e1 : ([(⟨sTemp, s, s.size⟩ : Fl)].filter fun f => decide (f.name ≠ x)).filter (fun f => decide (f.name ≠ sTemp)) = [] := by
    rw [List.filter_eq_nil_iff]
    intro f hf
    have := List.mem_singleton.1 (List.mem_filter.1 hf).1
    subst this
    simp
  rw [e1, List.append_nil]
  show ((d.L.filter fun f => decide (f.name ≠ sTemp)).filter fun f => decide (f.name ≠ x)).filter (fun f => decide (f.name ≠ sTemp)) = restL d.L x
  exact filter_all restL_temp
/-- A file for which there is no room. -/
theorem wr_full {d : Dk} {x s : ByteArray} (hl : d.L.length < 40) (hr : d.room - (d.del sTemp).used < s.size) : d.wr x s = (8, d.del sTemp) := by
  have hl2 : (d.del sTemp).L.length < 40 := Nat.lt_of_le_of_lt (List.length_filter_le _ _) hl
  have ha : (d.del sTemp).app sTemp s = (8, d.del sTemp) := by
    unfold Dk.app
    rw [if_neg (by rw [temp_name]; decide), find_none.2 (del_temp d)]
    show (if _ then _ else _) = _
    rw [if_neg (by omega), if_pos (show (d.del sTemp).room - (d.del sTemp).used < s.size from hr)]
  unfold Dk.wr
  rw [ha, if_neg (show ¬ (8 : Int) = 0 by decide)]
  show ((8 : Int), (d.del sTemp).del sTemp) = _
  rw [del_not (y := sTemp) (del_temp d)]

/-- Frames of epochs, one behind the other. -/
def epL (es : List Int) : List UInt8 := es.flatMap fun e => frmL crcU (bytesOf (putL e.toNat))
def epB (es : List Int) : ByteArray := Bl (epL es)
/-- The epochs rise, from a on. -/
def EpUp : Int → List Int → Prop
  | _, [] => True
  | a, e :: l => a < e ∧ e ≤ 274877906944 ∧ EpUp e l
def epLast : Int → List Int → Int
  | a, [] => a
  | _, e :: l => epLast e l
theorem pay_len {n : Nat} (h : n ≤ 1099511627776) : 0 < (bytesOf (putL n)).length ∧ (bytesOf (putL n)).length ≤ 6 := by
  unfold bytesOf
  rw [List.length_map]
  exact ⟨putL_pos n, putL_len 5 n (by omega)⟩
theorem tkN_pay {n : Int} (h0 : 0 ≤ n) (h : n ≤ 1099511627776) (r : List UInt8) : tkN (bytesOf (putL n.toNat) ++ r) = (n, r, 0) := by
  have hl := putL_len 5 n.toNat (by omega)
  have := tkL_put (n.toNat + 1) 0 0 n.toNat r (by omega) (by omega) (.inl rfl) (by omega)
  unfold tkN
  rw [this]
  show (((0 + n.toNat * 128 ^ 0 : Nat) : Int), (if (0 : Int) = 0 then (bytesOf (putL n.toNat) ++ r).drop (0 + (putL n.toNat).length) else []), (0 : Int)) = _
  rw [if_pos rfl, Nat.zero_add, Nat.zero_add, Nat.pow_zero, Nat.mul_one, List.drop_left' (by unfold bytesOf; rw [List.length_map])]
  congr 1
  omega
theorem scan_ep : ∀ (a : Int) (es : List Int), EpUp a es → scanS crcU (epL es) = (es.map (fun e => bytesOf (putL e.toNat)), [])
  | _, [], _ => by
    have e2 : (tkF crcU []).2.2 ≠ 0 := by unfold tkF; simp
    exact scanS_nil crcU e2
  | a, e :: l, h => by
    obtain ⟨h1, h2, h3⟩ := h
    have hp := pay_len (n := e.toNat) (by omega)
    have ht := tkF_put crcU crcU_lt (bytesOf (putL e.toNat)) (epL l) hp.1 (by omega)
    have he : epL (e :: l) = frmL crcU (bytesOf (putL e.toNat)) ++ epL l := rfl
    have e0 : (tkF crcU (epL (e :: l))).2.2 = 0 := by rw [he, ht]
    rw [scanS_cons crcU e0, he, ht]
    simp only [scan_ep e l h3, List.map_cons]
theorem epsF_ep : ∀ (a : Int) (i : Nat) (es : List Int), 0 ≤ a → EpUp a es → epsF a i (es.map (fun e => bytesOf (putL e.toNat))) = (epLast a es, i + es.length, true)
  | a, i, [], _, _ => rfl
  | a, i, e :: l, h0, h => by
    obtain ⟨h1, h2, h3⟩ := h
    have ht := tkN_pay (n := e) (by omega) (by omega) []
    rw [List.append_nil] at ht
    rw [List.map_cons]
    unfold epsF
    rw [ht, if_pos ⟨rfl, rfl, h1, h2⟩]
    show epsF e (i + 1) _ = _
    rw [epsF_ep e (i + 1) l (by omega) h3]
    simp only [epLast, List.length_cons]
    rw [show i + 1 + l.length = i + (l.length + 1) by omega]
theorem epsS_ep {es : List Int} (h : EpUp 0 es) : epsS (epL es) = (epLast 0 es, es.length, true) := by
  unfold epsS
  rw [scan_ep 0 es h, epsF_ep 0 0 es (Int.le_refl _) h]
  simp
theorem epUp_snoc : ∀ {a : Int} {es : List Int} {n : Int}, EpUp a es → epLast a es < n → n ≤ 274877906944 → EpUp a (es ++ [n])
  | _, [], _, _, h1, h2 => ⟨h1, h2, trivial⟩
  | _, _ :: _, _, h, h1, h2 => ⟨h.1, h.2.1, epUp_snoc h.2.2 h1 h2⟩
theorem epLast_snoc : ∀ (a : Int) (es : List Int) (n : Int), epLast a (es ++ [n]) = n
  | _, [], _ => rfl
  | _, e :: l, n => epLast_snoc e l n
theorem epLast_ge : ∀ {a : Int} {es : List Int}, EpUp a es → a ≤ epLast a es ∧ (es ≠ [] → a < epLast a es) ∧ (es ≠ [] → epLast a es ≤ 274877906944)
  | a, [], _ => ⟨Int.le_refl _, fun h => absurd rfl h, fun h => absurd rfl h⟩
  | a, e :: l, h => by
    have := epLast_ge h.2.2
    refine ⟨by show a ≤ epLast e l; have := this.1; have := h.1; omega, fun _ => by show a < epLast e l; have := this.1; have := h.1; omega, fun _ => ?_⟩
    show epLast e l ≤ _
    cases l with
    | nil => exact h.2.1
    | cons x l => exact this.2.2 (by simp)
theorem epL_len : ∀ {a : Int} {es : List Int}, 0 ≤ a → EpUp a es → (epL es).length ≤ 14 * es.length
  | _, [], _, _ => by simp [epL]
  | a, e :: l, h0, h => by
    have hp := pay_len (n := e.toNat) (by have := h.1; have := h.2.1; omega)
    have := epL_len (a := e) (by have := h.1; omega) h.2.2
    show (frmL crcU (bytesOf (putL e.toNat)) ++ epL l).length ≤ _
    rw [List.length_append]
    unfold frmL
    rw [List.length_append, List.length_append, fixL_len, fixL_len, List.length_cons]
    omega
/-- A disk that keeps epochs, and nothing else. -/
def epD (room : Int) (es : List Int) : Dk := if es = [] then ⟨room, []⟩ else ⟨room, [⟨sMark, epB es, (epB es).size⟩]⟩
theorem epD_mark (room : Int) (es : List Int) : (epD room es).mark = epL es := by
  by_cases h : es = []
  · subst h
    rfl
  · have e : epD room es = ⟨room, [⟨sMark, epB es, (epB es).size⟩]⟩ := by unfold epD; rw [if_neg h]
    have : (epD room es).find sMark = some ⟨sMark, epB es, (epB es).size⟩ := by rw [e]; simp [Dk.find]
    unfold Dk.mark
    rw [this]
    rfl
theorem sync_one (room : Int) (b : ByteArray) : (⟨room, [⟨sMark, b, b.size⟩]⟩ : Dk).sync sMark = ⟨room, [⟨sMark, b, b.size⟩]⟩ := by
  have := sync_last (room := room) (L := []) (x := sMark) (b := b) (σ := b.size) (fun _ h => by cases h)
  exact this
theorem find_one (room : Int) (b : ByteArray) (y : Int) : (⟨room, [⟨sMark, b, y⟩]⟩ : Dk).find sMark = some ⟨sMark, b, y⟩ := by simp [Dk.find]
theorem raise_new {d : Dk} {n a : Int} {m : Nat} {b : Bool} {r : Int × Dk} (hE : epsS d.mark = (a, m, b)) (h1 : ¬ (n < 1 ∨ 274877906944 < n)) (h2 : ¬ n < a) (h3 : n ≠ a)
    (hr : (if b = true ∧ m ≤ 20 then d.app sMark (mkF n) else d.wr sMark (mkF n)) = r) : d.raise n = if r.1 = 0 then (if r.2.find sMark = none then 6 else 0, r.2.sync sMark) else r := by
  subst hr
  unfold Dk.raise
  rw [if_neg h1, hE]
  show (if n < a then _ else _) = _
  rw [if_neg h2]
  show (if n = a then _ else _) = _
  rw [if_neg h3]
/-- What Raise makes of it. -/
theorem epD_raise {room : Int} {es : List Int} (hr : 1000 ≤ room) (h : EpUp 0 es) (hl : es.length ≤ 21) (n : Int) :
    (n < 1 ∨ 274877906944 < n → (epD room es).raise n = (1, epD room es)) ∧
    (¬ (n < 1 ∨ 274877906944 < n) → n < epLast 0 es → (epD room es).raise n = (10, epD room es)) ∧
    (¬ (n < 1 ∨ 274877906944 < n) → ¬ n < epLast 0 es → ∃ es', (epD room es).raise n = (0, epD room es') ∧ EpUp 0 es' ∧ es'.length ≤ 21 ∧ epLast 0 es' = n) := by
  have hm := epD_mark room es
  have he := epsS_ep h
  refine ⟨fun h1 => ?_, fun h1 h2 => ?_, fun h1 h2 => ?_⟩
  · unfold Dk.raise
    rw [if_pos h1]
  · unfold Dk.raise
    rw [if_neg h1, hm, he, if_pos h2]
  · by_cases e : n = epLast 0 es
    · have hne : es ≠ [] := by
        intro e0
        rw [e0] at e
        have : n = 0 := e
        omega
      refine ⟨es, ?_, h, hl, e.symm⟩
      unfold Dk.raise
      rw [if_neg h1, hm, he, if_neg h2, if_pos e]
      unfold epD
      rw [if_neg hne, find_one, sync_one]
      rfl
    · have hlt : epLast 0 es < n := by omega
      have hlen := epL_len (Int.le_refl 0) h
      have hfs : (mkF n).size ≤ 14 := by
        have hp := pay_len (n := n.toNat) (by omega)
        show (frmL crcU (bytesOf (putL n.toNat))).length ≤ _
        unfold frmL
        rw [List.length_append, List.length_append, fixL_len, fixL_len]
        omega
      by_cases hk : es.length ≤ 20
      · refine ⟨es ++ [n], ?_, epUp_snoc h hlt (by omega), by rw [List.length_append, List.length_singleton]; omega, epLast_snoc _ _ _⟩
        have hb : epB es ++ mkF n = epB (es ++ [n]) := by
          show Bl (epL es) ++ Bl _ = Bl (epL (es ++ [n]))
          rw [← Bl_append]
          congr 1
          unfold epL
          rw [List.flatMap_append]
          simp
        have hd : epD room (es ++ [n]) = ⟨room, [⟨sMark, epB (es ++ [n]), (epB (es ++ [n])).size⟩]⟩ := by unfold epD; rw [if_neg (by simp)]
        have happ : (epD room es).app sMark (mkF n) = (0, ⟨room, [⟨sMark, epB (es ++ [n]), if es = [] then 0 else (epB es).size⟩]⟩) := by
          unfold epD
          by_cases e0 : es = []
          · rw [if_pos e0, if_pos e0]
            have := app_new (room := room) (L := []) (x := sMark) (s := mkF n) mark_name (fun _ h => by cases h) (by decide) (by show ¬ room - ((total [] : Nat) : Int) < _; have : total ([] : List Fl) = 0 := rfl; rw [this]; omega)
            rw [this, ← hb, e0]
            show ((0 : Int), (⟨room, [] ++ [⟨sMark, mkF n, 0⟩]⟩ : Dk)) = _
            have e3 : (Bl [] ++ mkF n : ByteArray) = mkF n := by
              show Bl [] ++ Bl _ = Bl _
              rw [← Bl_append]
              rfl
            rw [show epB [] = Bl [] from rfl, e3]
            rfl
          · rw [if_neg e0, if_neg e0]
            have := app_last (room := room) (L := []) (x := sMark) (b := epB es) (s := mkF n) (σ := (epB es).size) mark_name (fun _ h => by cases h) (by
              have : total ([] : List Fl) = 0 := rfl
              rw [this]
              have : ((epB es).size : Int) = ((epL es).length : Int) := rfl
              omega)
            rw [hb] at this
            exact this
        rw [raise_new (hm ▸ he) h1 h2 e (r := (0, ⟨room, [⟨sMark, epB (es ++ [n]), if es = [] then 0 else (epB es).size⟩]⟩)) (by rw [if_pos ⟨rfl, hk⟩]; exact happ), if_pos rfl]
        show ((if (⟨room, [⟨sMark, epB (es ++ [n]), if es = [] then 0 else (epB es).size⟩]⟩ : Dk).find sMark = none then (6 : Int) else 0), (⟨room, [⟨sMark, epB (es ++ [n]), if es = [] then 0 else (epB es).size⟩]⟩ : Dk).sync sMark) = _
        rw [find_one, hd]
        have := sync_last (room := room) (L := []) (x := sMark) (b := epB (es ++ [n])) (σ := if es = [] then 0 else (epB es).size) (fun _ h => by cases h)
        show ((0 : Int), (dkL room [] sMark (epB (es ++ [n])) _).sync sMark) = _
        rw [this]
        rfl
      · refine ⟨[n], ?_, ⟨by omega, by omega, trivial⟩, by simp, rfl⟩
        have hne : es ≠ [] := by intro e0; rw [e0] at hk; simp at hk
        have hd : epD room es = ⟨room, [⟨sMark, epB es, (epB es).size⟩]⟩ := by unfold epD; rw [if_neg hne]
        have hd1 : epD room [n] = ⟨room, [⟨sMark, epB [n], (epB [n]).size⟩]⟩ := by unfold epD; rw [if_neg (by simp)]
        have hb : mkF n = epB [n] := by unfold epB epL mkF; simp
        have hdel : (epD room es).del sTemp = epD room es := by
          rw [hd]
          exact del_not (y := sTemp) (fun f hf => by obtain rfl := List.mem_singleton.1 hf; exact mark_temp)
        have hw : (epD room es).wr sMark (mkF n) = (0, epD room [n]) := by
          rw [wr_ok mark_name mark_temp (by rw [hd]; show 1 < 40; decide) (by
            rw [hdel, hd]
            show ¬ room - ((total [⟨sMark, epB es, (epB es).size⟩] : Nat) : Int) < _
            have : total [(⟨sMark, epB es, (epB es).size⟩ : Fl)] = (epL es).length + 0 := rfl
            rw [this]
            omega)]
          rw [hd1, hd, hb]
          congr 2
        rw [raise_new (hm ▸ he) h1 h2 e (r := (0, epD room [n])) (by rw [if_neg (fun h => hk h.2)]; exact hw), if_pos rfl]
        show ((if (epD room [n]).find sMark = none then (6 : Int) else 0), (epD room [n]).sync sMark) = _
        rw [hd1, find_one, sync_one]
        rfl
end Go.Proofs.YthdehdlbocgfaaaGreatDoor
