/- ManifestTells: what Raise makes of any two files, in plain words. Under the stated premises. -/
import Derived.Test.YthdehdlbocgfaaaDoorManH
namespace Go.Proofs.YthdehdlbocgfaaaDoor
open Go.RowKit Go.Bl

theorem epsF_snoc {p : List UInt8} {n : Int} (h1 : (tkN p).2.2 = 0) (h2 : (tkN p).2.1 = []) (h3 : (tkN p).1 = n) (h4 : n ≤ 274877906944) : ∀ (l : List (List UInt8)) (a : Int) (i : Nat), (epsF a i l).2.2 = true → (epsF a i l).1 < n → (epsF a i (l ++ [p])).1 = n
  | [], a, i, _, h => by
    show (epsF a i [p]).1 = n
    unfold epsF
    rw [if_pos ⟨h1, h2, by rw [h3]; exact h, by rw [h3]; exact h4⟩]
    exact h3
  | q :: l, a, i, hb, h => by
    show (epsF a i (q :: (l ++ [p]))).1 = n
    unfold epsF at hb h ⊢
    split
    · rename_i hq
      rw [if_pos hq] at hb h
      exact epsF_snoc h1 h2 h3 h4 l _ _ hb h
    · rename_i hq
      rw [if_neg hq] at hb
      cases hb
theorem epsS_snoc {S : List UInt8} {n : Int} (hb : (epsS S).2.2 = true) (ha : (epsS S).1 < n) (h1 : 1 ≤ n) (h2 : n ≤ 274877906944) : (epsS (S ++ frmL crcU (bytesOf (putL n.toNat)))).1 = n := by
  have hp := pay_len (n := n.toNat) (by omega)
  have ht := tkN_pay (n := n) (by omega) (by omega) []
  rw [List.append_nil] at ht
  unfold epsS at hb ha ⊢
  simp only [Bool.and_eq_true, decide_eq_true_eq] at hb
  rw [scanS_more crcU crcU_lt _ hp.1 (by omega) _ S (Nat.le_refl _) hb.2]
  exact epsF_snoc (by rw [ht]) (by rw [ht]) (by rw [ht]) h2 _ 0 0 hb.1 ha
theorem epsS_one {n : Int} (h1 : 1 ≤ n) (h2 : n ≤ 274877906944) : (epsS (Lb (mkF n))).1 = n := by
  have := epsS_ep (es := [n]) ⟨by omega, h2, trivial⟩
  have e : epL [n] = frmL crcU (bytesOf (putL n.toNat)) := by unfold epL; simp
  rw [e] at this
  unfold mkF
  rw [Lb_Bl, this]
  rfl
theorem mkF_size {n : Int} (h2 : n ≤ 274877906944) : (mkF n).size ≤ 14 := by
  have hp := pay_len (n := n.toNat) (by omega)
  show (frmL crcU (bytesOf (putL n.toNat))).length ≤ _
  unfold frmL
  rw [List.length_append, List.length_append, fixL_len, fixL_len]
  omega
/-- Two files. -/
def tellD (s b : ByteArray) (y : Int) : Dk := ⟨100000, [⟨sFile, s, 0⟩, ⟨sMark, b, y⟩]⟩
theorem file_only {s : ByteArray} : ∀ f ∈ [(⟨sFile, s, 0⟩ : Fl)], f.name ≠ sMark := fun f hf => by obtain rfl := List.mem_singleton.1 hf; exact fun e => mark_file e.symm
theorem total_one (f : Fl) : total [f] = f.bytes.size := by show f.bytes.size + 0 = _; omega
theorem tell_find (s b : ByteArray) (y : Int) : (tellD s b y).find sMark = some ⟨sMark, b, y⟩ := find_last (room := 100000) (L := [⟨sFile, s, 0⟩]) file_only
theorem tell_file (s b : ByteArray) (y : Int) : (tellD s b y).find sFile = some ⟨sFile, s, 0⟩ := by unfold Dk.find tellD; simp
theorem tell_sync (s b : ByteArray) (y : Int) : (tellD s b y).sync sMark = tellD s b b.size := sync_last (room := 100000) (L := [⟨sFile, s, 0⟩]) file_only
theorem tell_mark (s b : ByteArray) (y : Int) : (tellD s b y).mark = Lb b := by unfold Dk.mark; rw [tell_find]
theorem tell_begin (s t : ByteArray) (hs : s.size ≤ 2000) (ht : t.size ≤ 2000) : ((⟨100000, []⟩ : Dk).app sFile s) = (0, ⟨100000, [⟨sFile, s, 0⟩]⟩) ∧ ((⟨100000, [⟨sFile, s, 0⟩]⟩ : Dk).app sMark t) = (0, tellD s t 0) := by
  constructor
  · exact app_new (room := 100000) (L := []) file_name (fun _ h => by cases h) (by decide) (by have : total ([] : List Fl) = 0 := rfl; rw [this]; omega)
  · exact app_new (room := 100000) (L := [⟨sFile, s, 0⟩]) mark_name file_only (by show 1 < 40; decide) (by rw [total_one]; show ¬ (100000 : Int) - (s.size : Int) < _; omega)
/-- What Raise makes of it. -/
theorem tell_raise (s t : ByteArray) (hs : s.size ≤ 2000) (ht : t.size ≤ 2000) (n : Int) : ∃ b y, ((tellD s t 0).raise n).2 = tellD s b y ∧ b.size ≤ 3000 ∧ (((tellD s t 0).raise n).1 = 0 → y = b.size ∧ (epsS (Lb b)).1 = n ∧ (epsS (Lb t)).1 ≤ n) := by
  have hm := tell_mark s t 0
  by_cases h1 : n < 1 ∨ 274877906944 < n
  · refine ⟨t, 0, ?_⟩
    unfold Dk.raise
    rw [if_pos h1]
    exact ⟨rfl, by omega, fun h => by cases h⟩
  by_cases h2 : n < (epsS (Lb t)).1
  · refine ⟨t, 0, ?_⟩
    unfold Dk.raise
    rw [if_neg h1, hm, if_pos h2]
    exact ⟨rfl, by omega, fun h => by cases h⟩
  by_cases h3 : n = (epsS (Lb t)).1
  · refine ⟨t, t.size, ?_⟩
    unfold Dk.raise
    rw [if_neg h1, hm, if_neg h2, if_pos h3, tell_sync]
    exact ⟨rfl, by omega, fun _ => ⟨rfl, h3.symm, by omega⟩⟩
  have hsz := mkF_size (n := n) (by omega)
  by_cases hk : (epsS (Lb t)).2.2 = true ∧ (epsS (Lb t)).2.1 ≤ 20
  · have ha : (tellD s t 0).app sMark (mkF n) = (0, tellD s (t ++ mkF n) 0) := app_last (room := 100000) (L := [⟨sFile, s, 0⟩]) mark_name file_only (by rw [total_one]; show ¬ (100000 : Int) - ((s.size : Int) + (t.size : Int)) < _; omega)
    have hr := raise_new (d := tellD s t 0) (n := n) (a := (epsS (Lb t)).1) (m := (epsS (Lb t)).2.1) (b := (epsS (Lb t)).2.2) (r := (0, tellD s (t ++ mkF n) 0)) (by rw [hm]) h1 h2 h3 (by rw [if_pos hk, ha])
    rw [if_pos rfl, tell_find, tell_sync] at hr
    refine ⟨t ++ mkF n, ((t ++ mkF n).size : Nat), ?_⟩
    rw [hr]
    refine ⟨rfl, by rw [ByteArray.size_append]; omega, fun _ => ⟨rfl, ?_, by omega⟩⟩
    have e : Lb (t ++ mkF n) = Lb t ++ frmL crcU (bytesOf (putL n.toNat)) := by
      unfold mkF Lb Bl
      simp
    rw [e]
    exact epsS_snoc hk.1 (by omega) (by omega) (by omega)
  · have hd : (tellD s t 0).del sTemp = tellD s t 0 := del_not (y := sTemp) (fun f hf => by
      rcases List.mem_cons.1 hf with rfl | hf
      · exact file_temp
      · obtain rfl := List.mem_singleton.1 hf
        exact mark_temp)
    have hu : (tellD s t 0).used = (s.size : Int) + t.size := by
      show ((s.size + (t.size + 0) : Nat) : Int) = _
      omega
    have ha : (tellD s t 0).wr sMark (mkF n) = (0, tellD s (mkF n) (mkF n).size) := by
      rw [wr_ok mark_name mark_temp (by show 2 < 40; decide) (by rw [hd, hu]; show ¬ (100000 : Int) - _ < _; omega)]
      rfl
    have hr := raise_new (d := tellD s t 0) (n := n) (a := (epsS (Lb t)).1) (m := (epsS (Lb t)).2.1) (b := (epsS (Lb t)).2.2) (r := (0, tellD s (mkF n) (mkF n).size)) (by rw [hm]) h1 h2 h3 (by rw [if_neg hk, ha])
    rw [if_pos rfl, tell_find, tell_sync] at hr
    refine ⟨mkF n, ((mkF n).size : Nat), ?_⟩
    rw [hr]
    exact ⟨rfl, by omega, fun _ => ⟨rfl, epsS_one (by omega) (by omega), by omega⟩⟩
/-- A file written as a whole is there behind a crash. -/
theorem wr_crash {d : Dk} {s : ByteArray} {keep : List Int} {ks : List ByteArray} {r' : Int} {k : Nat} (hn : (((d.wr sFile s).2).L.map Fl.name).Nodup) (hl : d.L.length < 40) (hr : ¬ d.room - (d.del sTemp).used < s.size) : (⟨r', crashN keep ks (d.wr sFile s).2.L k⟩ : Dk).find sFile = some ⟨sFile, s, s.size⟩ := by
  have hw := wr_ok (d := d) (s := s) file_name file_temp hl hr
  rw [hw] at hn ⊢
  exact find_crash d.room r' keep ks _ hn (find_snoc d.room (restL d.L sFile) ⟨sFile, s, s.size⟩ fun g hg => by simpa using (List.mem_filter.1 hg).2) rfl k
theorem used_del (d : Dk) (x : ByteArray) : (d.del x).used ≤ d.used := by
  show ((total (d.L.filter fun f => decide (f.name ≠ x)) : Nat) : Int) ≤ ((total d.L : Nat) : Int)
  have := total_filter_le (fun f : Fl => decide (f.name ≠ x)) d.L
  omega
/-- Behind a crash. -/
theorem tell_crash {s b : ByteArray} {y : Int} (hs : s.size ≤ 2000) (hb : b.size ≤ 3000) (hok : (tellD s b y).Ok) (keep : List Int) (ks : List ByteArray) (k : Nat) :
    (crashN keep ks (tellD s b y).L k).length = 2 ∧ total (crashN keep ks (tellD s b y).L k) ≤ 5000 ∧ (y = b.size → (⟨100000, crashN keep ks (tellD s b y).L k⟩ : Dk).mark = Lb b) := by
  refine ⟨?_, ?_, fun hy => ?_⟩
  · have := congrArg List.length (crashN_names keep ks (tellD s b y).L k)
    rw [List.length_map, List.length_map] at this
    exact this
  · have h1 := crashN_le (keep := keep) (ks := ks) hok.syn k
    have h2 : total (tellD s b y).L = s.size + (b.size + 0) := rfl
    omega
  · have hn : ((tellD s b y).L.map Fl.name).Nodup := by
      show [sFile, sMark].Nodup
      decide
    unfold Dk.mark
    rw [find_crash 100000 100000 keep ks (tellD s b y).L hn (tell_find s b y) hy k]
/-- A manifest of few bytes. -/
theorem man_size {n : Int} {l : List Int} (h : rightB n l = true) : (Bl (frmL crcU (manL n l))).size ≤ 20 + 6 * l.length := by
  obtain ⟨h1, h2, h3, h4⟩ := rightB_bd h
  have hfl := flat_len l (fun x hx => by have := h4 x hx; omega)
  have hp1 := pb_len (n := n) (by omega)
  have hp2 := pb_len (n := (l.length : Int)) (by omega)
  have hm : (manL n l).length = (pb n).length + (pb l.length).length + (l.flatMap pb).length := by unfold manL; rw [List.length_append, List.length_append]
  show (frmL crcU (manL n l)).length ≤ _
  unfold frmL
  rw [List.length_append, List.length_append, fixL_len, fixL_len]
  omega
theorem save_is {d : Dk} {n : Int} {l : List Int} (h : rightB n l = true) : d.save n l = d.wr sFile (Bl (frmL crcU (manL n l))) := by
  unfold Dk.save
  rw [if_pos h]
theorem sl_block {α : Type} {w : World} {k : Nat} {enc : α → List Value} {l : List α} {g : Nat} {cs : Array Value} {e : TypeId} {fr : Nat × Nat} {n : Nat} (hk : ∀ x, (enc x).length = k)
    (hg : w.heap[g]? = some (.cells cs e fr)) (hc : cs.toList = l.flatMap enc) (hn : n = l.length) (hm : n ≤ maxLen) : Sl w (fun b => b = g) k enc (.slice (some ⟨g, 0, none⟩) n n) l := by
  subst hn
  refine ⟨_, _, rfl, Nat.le_refl _, hm, fun _ => ⟨g, 0, rfl, rfl, (Array.getElem?_eq_some_iff.1 hg).1, fun i hi j u hu => ?_⟩⟩
  have hj : j < k := by
    have := (List.getElem?_eq_some_iff.1 hu).1
    rwa [hk] at this
  have h1 := flatMap_at enc k hk l i hi j hj
  rw [hu, ← hc] at h1
  rw [Nat.zero_add, cell_of_row w g (i * k + j) cs e fr hg]
  simpa using h1
end Go.Proofs.YthdehdlbocgfaaaDoor
