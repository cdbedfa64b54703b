/- StateOnce: what the statement's function does: it answers true. Under the tables that utf8 lays. -/
import Derived.Test.YtlfhokcjbgpjhaaDoorStaF
import Derived.Test.YtlfhokcjbgpjhaaDoorIdxQ
namespace Go.Proofs.YtlfhokcjbgpjhaaDoor
open Go.RowKit Go.Bl
attribute [local go_sem ↓] Go.wp_at_zero Go.wp_at_succ

theorem sl_map {α β : Type} {w : World} {F : Nat → Prop} {k : Nat} {enc : β → List Value} {v : Value} {L : List α} (f : α → β) : Sl w F k (fun x => enc (f x)) v L ↔ Sl w F k enc v (L.map f) := by
  constructor
  · rintro ⟨A, c, h1, h2, h3, h4⟩
    refine ⟨A, c, by rw [List.length_map]; exact h1, by rw [List.length_map]; exact h2, h3, fun h0 => ?_⟩
    rw [List.length_map] at h0
    obtain ⟨b, o, e1, e2, e3, e4⟩ := h4 h0
    refine ⟨b, o, e1, e2, e3, fun i hi j u hu => ?_⟩
    have hi' : i < L.length := by simpa using hi
    rw [List.getElem_map] at hu
    exact e4 i hi' j u hu
  · rintro ⟨A, c, h1, h2, h3, h4⟩
    rw [List.length_map] at h1 h2
    refine ⟨A, c, h1, h2, h3, fun h0 => ?_⟩
    obtain ⟨b, o, e1, e2, e3, e4⟩ := h4 (by rw [List.length_map]; exact h0)
    refine ⟨b, o, e1, e2, e3, fun i hi j u hu => ?_⟩
    exact e4 i (by rw [List.length_map]; exact hi) j u (by rw [List.getElem_map]; exact hu)
/-- Entries whose slice of events is one cell. -/
structure EntS where
  val : Ent
  one : val.evv.oneCell' = true
def ensc (a : EntS) : List Value := entc a.val
theorem ensc_one (x : EntS) (u : Value) (h : u ∈ ensc x) : u.oneCell' = true := by
  simp only [ensc, entc, List.mem_cons, List.not_mem_nil, or_false] at h
  rcases h with rfl | rfl | rfl | rfl | rfl | rfl | rfl <;> first | rfl | exact x.one
theorem infoEntry : (Tryd.prog.info? 32).map (fun i => (i.zero, i.size, i.bytes)) = some (some (.agg #[.int .i64 0, .int .i64 0, .string ByteArray.empty, .int .i64 0, .int .i64 0, .int .i64 0, .slice none 0 0]), 7, 80) := by kernel_rfl
theorem elEns : El Tryd.prog 22 32 7 80 ensc := ⟨Tryd.underlying22, ⟨_, infoEntry, rfl⟩, by decide, by decide, fun _ => rfl, ensc_one⟩
theorem infoOut : (Tryd.prog.info? 37).map (fun i => (i.zero, i.size, i.bytes)) = some (some (.agg #[.int .i64 0, .int .i64 0, .int .i64 0, .int .i64 0]), 4, 32) := by kernel_rfl
theorem occ_one (x : Ded.Oc) (u : Value) (h : u ∈ Ded.occ x) : u.oneCell' = true := by
  simp only [Ded.occ, List.mem_cons, List.not_mem_nil, or_false] at h
  rcases h with rfl | rfl | rfl | rfl <;> rfl
theorem elOut : El Tryd.prog 34 37 4 32 Ded.occ := ⟨Tryd.underlying34, ⟨_, infoOut, rfl⟩, by decide, by decide, fun _ => rfl, occ_one⟩
theorem lift_ents (l : List Ent) (h : ∀ a ∈ l, a.evv.oneCell' = true) : ∃ L : List EntS, L.map (fun x => x.val) = l := by
  induction l with
  | nil => exact ⟨[], rfl⟩
  | cons a l ih =>
    obtain ⟨L, hL⟩ := ih (fun b hb => h b (List.mem_cons_of_mem _ hb))
    exact ⟨⟨a, h a List.mem_cons_self⟩ :: L, by rw [List.map_cons, hL]⟩

/-- The rows of what was done, and of the outcomes, beside the state and the row of all entries. -/
structure MainS (w wm wr : World) (p : Nat) (va : Value) (M : List EntS) (s : St) (F W : Nat → Prop) (vd vo : Value) (D : List EntS) (O : List Ded.Oc) (k : Nat) : Prop where
  st : StAt wr p s F W
  fw : ∀ j, F j → w.heap.size ≤ j
  fa : ∀ b, va.ownBlock = some b → ¬ F b
  fd : ∀ b, vd.ownBlock = some b → ¬ F b
  fo : ∀ b, vo.ownBlock = some b → ¬ F b
  all : Sl wr (fun b => va.ownBlock = some b) 7 ensc va M
  done : Own wr wm.heap.size 32 7 ensc vd D
  outs : Own wr wm.heap.size 37 4 Ded.occ vo O
  dv : ∀ b, vd.ownBlock = some b → vo.ownBlock ≠ some b
  am : ∀ b, va.ownBlock = some b → b < wm.heap.size
  lL : s.L.length ≤ 8 * k
  lT : s.T.length ≤ k
  ap : 0 ≤ s.ap ∧ s.ap ≤ k
  lD : D.length ≤ k
  str : ∀ o ∈ s.L, o.stream.size ≤ 300
  bel : Below w.heap.size w wr
  bm : wm.heap.size ≤ wr.heap.size
  wmw : w.heap.size ≤ wm.heap.size
section
variable {w wm wr : World} {p k : Nat} {va vd vo : Value} {M D : List EntS} {s : St} {F W : Nat → Prop} {O : List Ded.Oc}
theorem apply_str {s : St} {a : Ent} {n : Nat} (h : ∀ o ∈ s.L, o.stream.size ≤ n) (ha : a.stream.size ≤ n) : ∀ o ∈ (applyS s a).1.L, o.stream.size ≤ n := by
  by_cases hh : rightB a = true ∧ a.pos = s.ap + 1
  · rcases apply_next hh.1 hh.2 with ⟨o, _, _, _, e⟩ | ⟨_, _, e⟩ | ⟨_, _, _, e⟩ <;> rw [e]
    · exact h
    · exact h
    · intro o ho
      have ho : o ∈ freshL s a := ho
      unfold freshL addS at ho
      split at ho
      · exact h o ho
      · rcases List.mem_append.1 ho with q | q
        · exact h o q
        · obtain ⟨e, _, rfl⟩ := List.mem_map.1 q
          exact ha
  · rw [(apply_err (s := s) (a := a) (by
      by_cases h1 : rightB a = true
      · exact .inr (fun h2 => hh ⟨h1, h2⟩)
      · exact .inl (by simpa using h1))).1]
    exact h
theorem MainS.step (h : MainS w wm wr p va M s F W vd vo D O k) {w2 w3 x : World} {a : Ent} (hb : Below wr.heap.size wr w2) (hA : Applied w2 w3 p (applyS s a).1 F W) (hx : Below w3.heap.size w3 x) (ha : a.stream.size ≤ 300) :
    ∃ F' W', MainS w wm x p va M (applyS s a).1 F' W' vd vo D O (k + 1) := by
  obtain ⟨W', h1, h3, hK⟩ := hA
  obtain ⟨g1, g2, g3, _⟩ := apply_grows s a
  have hKW : Keeps W wr x := ((Keeps.of_fresh hb W).trans hK).trans (Keeps.of_fresh hx W)
  have hwf := h.st.wf
  have z2 := hb.size
  have z3 := hK.size
  have lo : ∀ (v : Value) (hv : ∀ b, v.ownBlock = some b → b < wr.heap.size ∧ ¬ F b) (b : Nat), v.ownBlock = some b → ¬ (F b ∨ (w2.heap.size ≤ b ∧ b < w3.heap.size)) := fun v hv b e c => by
    rcases c with c | c
    · exact (hv b e).2 c
    · have := (hv b e).1; omega
  have lA := h.lL
  have lB := h.lT
  have lC := h.ap
  have lE := h.lD
  refine ⟨_, W', h3.fresh hx, fun j hj => ?_, lo va (fun b e => ⟨Nat.lt_of_lt_of_le (h.am b e) h.bm, h.fa b e⟩), lo vd (fun b e => ⟨(h.done.lt b e).2, h.fd b e⟩), lo vo (fun b e => ⟨(h.outs.lt b e).2, h.fo b e⟩),
    h.all.keep hKW (fun j _ hj c => h.fa j hj (hwf j c)), h.done.keep hKW (fun b e c => h.fd b e (hwf b c)), h.outs.keep hKW (fun b e c => h.fo b e (hwf b c)), h.dv, h.am, by omega, by omega, by omega, by omega, apply_str h.str ha,
    Below.keep h.bel hKW h.bel.size (fun j hj => h.fw j (hwf j hj)), Nat.le_trans h.bm hKW.size, h.wmw⟩
  rcases hj with hj | hj
  · exact h.fw j hj
  · exact Nat.le_trans h.bel.size (Nat.le_trans z2 hj.1)
theorem MainS.growD (h : MainS w wm wr p va M s F W vd vo D O k) {xa w5 : World} {vd' : Value} {D' : List EntS} (hxa : Below wr.heap.size wr xa) (hg : xa.grownBy w5 vd.ownBlock) (hat : AtOf xa vd vd') (hO : Own w5 wm.heap.size 32 7 ensc vd' D') (hl : D'.length ≤ k) :
    MainS w wm w5 p va M s F W vd' vo D' O k := by
  have hK : Keeps (fun q => vd.ownBlock = some q) wr w5 := (Keeps.of_fresh hxa _).trans (Keeps.of_grown hg)
  have z := hxa.size
  refine ⟨h.st.keep hK (fun j hj e => h.fd j e hj), h.fw, h.fa, fun b e => ?_, h.fo, h.all.keep hK (fun j _ hj e => by have := h.am j hj; have := (h.done.lt j e).1; omega), hO, h.outs.keep hK (fun b e c => h.dv b c e), fun b e c => ?_, h.am, h.lL, h.lT, h.ap, hl, h.str,
    Below.keep h.bel hK h.bel.size (fun j hj => Nat.le_trans h.wmw (h.done.lt j hj).1), Nat.le_trans h.bm hK.size, h.wmw⟩
  · rcases hat with q | q <;> rw [q] at e
    · exact h.fd b e
    · injection e with e
      intro hf
      have := h.st.lt b hf
      omega
  · rcases hat with q | q <;> rw [q] at e
    · exact h.dv b e c
    · injection e with e
      have := (h.outs.lt b c).2
      omega
theorem MainS.growO (h : MainS w wm wr p va M s F W vd vo D O k) {xa w5 : World} {vo' : Value} {O' : List Ded.Oc} (hxa : Below wr.heap.size wr xa) (hg : xa.grownBy w5 vo.ownBlock) (hat : AtOf xa vo vo') (hO : Own w5 wm.heap.size 37 4 Ded.occ vo' O') :
    MainS w wm w5 p va M s F W vd vo' D O' k := by
  have hK : Keeps (fun q => vo.ownBlock = some q) wr w5 := (Keeps.of_fresh hxa _).trans (Keeps.of_grown hg)
  have z := hxa.size
  refine ⟨h.st.keep hK (fun j hj e => h.fo j e hj), h.fw, h.fa, h.fd, fun b e => ?_, h.all.keep hK (fun j _ hj e => by have := h.am j hj; have := (h.outs.lt j e).1; omega), h.done.keep hK (fun b e c => h.dv b e c), hO, fun b e c => ?_, h.am, h.lL, h.lT, h.ap, h.lD, h.str,
    Below.keep h.bel hK h.bel.size (fun j hj => Nat.le_trans h.wmw (h.outs.lt j hj).1), Nat.le_trans h.bm hK.size, h.wmw⟩
  · rcases hat with q | q <;> rw [q] at e
    · exact h.fo b e
    · injection e with e
      intro hf
      have := h.st.lt b hf
      omega
  · rcases hat with q | q <;> rw [q] at c
    · exact h.dv b e c
    · injection c with c
      have := (h.done.lt b e).2
      omega
end

def AllRel (wc : World) (p : Nat) (n : Nat) (L : List EntS) (F W : Nat → Prop) (va i : Value) (wr : World) : Prop :=
  ∃ (k : Nat) (M : List EntS), k ≤ n ∧ i = .int .i64 k ∧ Own wr wc.heap.size 32 7 ensc va M ∧ M.length ≤ L.length + k ∧ (∀ x ∈ M, x ∈ L) ∧ StAt wr p St.new F W ∧ Below wc.heap.size wc wr

def MainRel (w wm : World) (p : Nat) (va : Value) (M : List EntS) (vd vo sm i : Value) (wr : World) : Prop :=
  ∃ (k : Nat) (s : St) (F W : Nat → Prop) (D : List EntS) (O : List Ded.Oc) (σ : Int), k ≤ M.length ∧ i = .int .i64 k ∧ sm = .int .i64 σ ∧ MainS w wm wr p va M s F W vd vo D O k ∧ OnceOk s (D.map fun x => x.val) O σ
theorem MainS.fresh {w wm wr wx : World} {p k : Nat} {va vd vo : Value} {M D : List EntS} {s : St} {F W : Nat → Prop} {O : List Ded.Oc} (h : MainS w wm wr p va M s F W vd vo D O k) (hB : Below wr.heap.size wr wx) : MainS w wm wx p va M s F W vd vo D O k :=
  ⟨h.st.fresh hB, h.fw, h.fa, h.fd, h.fo, h.all.fresh hB, h.done.fresh hB, h.outs.fresh hB, h.dv, h.am, h.lL, h.lT, h.ap, h.lD, h.str, h.bel.trans (hB.mono h.bel.size), Nat.le_trans h.bm hB.size, h.wmw⟩

set_option maxRecDepth 10000 in
set_option maxHeartbeats 4000000 in
theorem once_any (w : World) (hT : Tabs w) (v u : Value) (l : List Ent) (ns : List Int) (h : EntsOk w (fun b => b < w.heap.size) v l) (hn : Sl w (fun b => b < w.heap.size) 1 (fun n : Int => [.int .i64 n]) u ns) (hn' : ∀ n ∈ ns, -9223372036854775808 ≤ n ∧ n ≤ 9223372036854775807) :
    Calls Tryd.prog 3 #[v, u] w fun x w' => x = .returned (.bool true) ∧ Below w.heap.size w w' := by
  have hne := neqOc
  obtain ⟨A, c, rfl, hA1, hA2⟩ := h.1.shape
  obtain ⟨A9, c9, rfl, hA3, hA4⟩ := hn.shape
  unfold maxLen at hA2 hA4
  have HTb := Lib.hid hT
  have HA := Lib.hid h
  have HNs := Lib.hid hn
  have HNr := Lib.hid hn'
  clear hT h hn hn'
  go_enter Tryd.func3, Tryd.ntmps3
  go_wp2_with fail
  refine (shown_any w HTb.out).mono ?_
  rintro e wa ⟨rfl, hBa⟩
  have HBa := Lib.hid hBa
  clear hBa
  go_wp2_with fail
  refine (fits_all wa _ _ l (HA.out.fresh HBa.out)).mono ?_
  rintro x wb ⟨rfl, hBb⟩
  have HBb := Lib.hid (HBa.out.trans (hBb.mono HBa.out.size))
  clear hBb
  go_wp2_with fail
  refine (snew_any wb).mono ?_
  rintro e wc ⟨p, W0, rfl, _, hW0, hS0, hBc⟩
  have HBc := Lib.hid (HBb.out.trans (hBc.mono HBb.out.size))
  have HS0 := Lib.hid hS0
  clear hBc hS0 hW0
  cases hfb : fitsB l
  · go_wp2_with fail
    go_ret
    exact ⟨rfl, HBc.out⟩
  have HFB := Lib.hid hfb
  clear hfb
  by_cases hl20 : 20 < l.length
  · have d1 : decide ((l.length : Int) > 20) = true := by simp; omega
    go_wp2_with fail
    go_ret
    exact ⟨rfl, HBc.out⟩
  by_cases hn40 : 40 < ns.length
  · have d1 : decide ((l.length : Int) > 20) = false := by simp; omega
    have d2 : decide ((ns.length : Int) > 40) = true := by simp; omega
    go_wp2_with fail
    go_ret
    exact ⟨rfl, HBc.out⟩
  have d1 : decide ((l.length : Int) > 20) = false := by simp; omega
  have d2 : decide ((ns.length : Int) > 40) = false := by simp; omega
  obtain ⟨L, hL⟩ := lift_ents l (fun a ha => by
    obtain ⟨A', c', hv, _, _⟩ := (HA.out.2 a ha).1.shape
    rw [hv]; rfl)
  have hLl : L.length = l.length := by rw [← hL, List.length_map]
  have hSL : Sl w (fun b => b < w.heap.size) 7 ensc (.slice A l.length c) L := (sl_map (enc := entc) (fun x : EntS => x.val)).2 (by rw [hL]; exact HA.out.1)
  have HSL := Lib.hid hSL
  have HLL := Lib.hid hLl
  have HME : Hid (∀ x ∈ L, EntOk w (fun b => b < w.heap.size) x.val ∧ (x.val.stream.size ≤ 300 ∧ x.val.evs.length ≤ 20 ∧ ∀ e ∈ x.val.evs, e.kind.size ≤ 300 ∧ e.data.size ≤ 500)) := Lib.hid (fun x hx => by
    have hm : x.val ∈ l := by rw [← hL]; exact List.mem_map.2 ⟨x, hx, rfl⟩
    exact ⟨HA.out.2 _ hm, entF_at ((fitsB_at HFB.out).2 _ hm)⟩)
  have hOe : Own (wc.alloc (.cells #[] 32)) wc.heap.size 32 7 ensc (.slice (some ⟨wc.heap.size, 0, none⟩) 0 0) ([] : List EntS) := Own.made wc (Nat.le_refl _) _ _ _
  have hBe : Below wc.heap.size wc (wc.alloc (.cells #[] 32)) := (Below.refl _ _).alloc (Nat.le_refl _) _
  have HOe := Lib.hid hOe
  have HBe := Lib.hid hBe
  have HSe := Lib.hid (hSL.fresh (HBc.out.trans (hBe.mono HBc.out.size)))
  clear hL hSL hOe hBe hLl
  go_wp2_with (at_builtin; refine elEns.append _ (by rfl) _ _ rfl wc.heap.size _ _ rfl HOe.out _ _ _ rfl HSe.out (by have := HLL.out; simp; omega) HBe.out.size ?_; intro va0 wd hOd hgd hatd)
  have hgd : (wc.alloc (.cells #[] 32)).grownBy wd (some wc.heap.size) := hgd
  have hKd : Keeps (fun q => q = wc.heap.size) wc wd := (Keeps.of_fresh HBe.out _).trans ((Keeps.of_grown hgd).mono (fun q _ e => by injection e with e; exact e.symm))
  have hBd : Below wc.heap.size wc wd := hKd.below (Nat.le_refl _) (fun q e => by omega)
  have HOd := Lib.hid hOd
  have HBd := Lib.hid hBd
  have HSd := Lib.hid (HS0.out.fresh hBd)
  clear hKd hBd hOd hgd hatd
  go_wp2_with fail
  go_loopw [8, 9] (fun va i wr => AllRel wc p ns.length L (fun j => wb.heap.size ≤ j ∧ j < wc.heap.size) W0 va i wr) (fun _ i _ => ns.length - (intOf i).toNat)
  case atStart => exact ⟨0, L, Nat.zero_le _, rfl, HOd.out, Nat.le_refl _, fun _ hx => hx, HSd.out, HBd.out⟩
  case round =>
    obtain ⟨k, M, hk, rfl, hO, hM, hML, hS, hB⟩ := hrel
    obtain ⟨Av, cv, rfl, _, _⟩ := hO.shape_ rfl
    have HO := Lib.hid hO
    have HBq := Lib.hid hB
    have HB := Lib.hid (HBc.out.trans (hB.mono HBc.out.size))
    have HS := Lib.hid hS
    have HML := Lib.hid hML
    have hln : ns.length ≤ 40 := by omega
    clear hO hB hS hML
    go_upto_region 8 with (fail)
    go_cut [61] (fun s61 wx => ∃ bb : Bool, s61 = .bool bb ∧ (bb = true → k < ns.length ∧ 0 < l.length) ∧ wr = wx)
    case first =>
      by_cases hlt : k < ns.length
      · by_cases h0 : 0 < l.length
        · have d3 : decide ((l.length : Int) > 0) = true := decide_eq_true (by omega)
          go_wp2_with fail
          go_meet
          exact ⟨true, rfl, fun _ => ⟨hlt, h0⟩, rfl⟩
        · have d3 : decide ((l.length : Int) > 0) = false := decide_eq_false (by omega)
          go_wp2_with fail
          go_meet
          exact ⟨false, rfl, fun h => (by cases h), rfl⟩
      · go_wp2_with fail
        go_meet
        exact ⟨false, rfl, fun h => (by cases h), rfl⟩
    case rest =>
      obtain ⟨bb, rfl, hbb, rfl⟩ := hcut
      cases bb
      · clear hbb
        go_wp2_with fail
        clear hA1 hA2 hA3 hA4
        have hM60 : M.length ≤ 60 := by have := HLL.out; omega
        have HMM : Hid (∀ x ∈ M, EntOk w (fun b => b < w.heap.size) x.val ∧ (x.val.stream.size ≤ 300 ∧ x.val.evs.length ≤ 20 ∧ ∀ e ∈ x.val.evs, e.kind.size ≤ 300 ∧ e.data.size ≤ 500)) := Lib.hid (fun x hx => HME.out x (HML.out x hx))
        clear hM hk d1 d2 hl20 hn40 hln HME HML
        obtain ⟨wm, rfl⟩ : ∃ x, x = wr := ⟨_, rfl⟩
        have HME := HMM
        clear HMM
        go_loopw [10, 11, 12, 13, 14, 15, 16, 17, 18] (fun vd vo sm i _ _ _ _ _ wr => MainRel w wm p (.slice Av M.length cv) M vd vo sm i wr) (fun _ _ _ i _ _ _ _ _ _ => M.length - (intOf i).toNat)
        case atStart =>
          have hwb := HBb.out.size
          have hwc := HBc.out.size
          have hwm := HB.out.size
          refine ⟨0, St.new, _, W0, [], [], 0, Nat.zero_le _, rfl, rfl, ⟨HS.out, fun j hj => by omega, fun b e hf => by have := (HO.out.lt b e).1; omega, fun b e => by simp [Value.ownBlock] at e, fun b e => by simp [Value.ownBlock] at e, HO.out.sl elEns.len, Own.nil_ _ _ _ _ _, Own.nil_ _ _ _ _ _, fun b e => by simp [Value.ownBlock] at e, fun b e => (HO.out.lt b e).2, by simp [St.new], by simp [St.new], by simp [St.new], by simp, by simp [St.new], HB.out, Nat.le_refl _, hwm⟩, OnceOk.start⟩
        case round =>
          obtain ⟨k, s, F, W, D, O, σ, hk, rfl, rfl, hMS, hOk⟩ := hrel
          by_cases hlt : k < M.length
          · have hSt := hMS.st
            have hAr := hMS.all
            have hB := hMS.bel
            have hap := hMS.ap
            have HF := Lib.hid hMS.fw
            have HL := Lib.hid hMS.lL
            have HTL := Lib.hid hMS.lT
            have HSlt := Lib.hid hMS.st.lt
            have hS := hMS.st
            obtain ⟨Ad, cd, rfl, _, _⟩ := hMS.done.shape_ rfl
            obtain ⟨Ao, co, rfl, _, _⟩ := hMS.outs.shape_ rfl
            have HMS := Lib.hid hMS
            have HOK := Lib.hid hOk
            clear hSt hMS hOk
            have HB := Lib.hid hB
            obtain ⟨b, o, rfl, _, _, hxx⟩ := hAr.cell_ hlt
            have hbo := (HME.out M[k] (List.getElem_mem hlt)).1.fresh hB
            have hst := hbo.2.2.1
            have hfl := (HME.out M[k] (List.getElem_mem hlt)).2
            have hxx : ∀ (j : Nat) (u : Value), (entc M[k].val)[j]? = some u → wr.cell? ⟨b, o + k * 7 + j, none⟩ = some u := hxx
            generalize hea : M[k].val = a at *
            obtain ⟨B, d, hv, _, _⟩ := hbo.1.shape
            have x0 := hxx 0 _ rfl
            have x1 := hxx 1 _ rfl
            have x2 := hxx 2 _ rfl
            have x3 := hxx 3 _ rfl
            have x4 := hxx 4 _ rfl
            have x5 := hxx 5 _ rfl
            have x6 := hxx 6 _ rfl
            rw [hv] at x6
            simp only [Nat.add_zero] at x0
            have HBO := Lib.hid hbo
            have HV := Lib.hid hv
            have HFL := Lib.hid hfl
            have HEA := Lib.hid hea
            clear hxx hbo hv hea hfl
            have hB1 : Below wr.heap.size wr (wr.alloc (.cells #[.int .i64 a.pos, .int .i64 a.epoch, .string a.stream, .int .i64 a.expect, .int .i64 a.session, .int .i64 a.seq, .slice B a.evs.length d] 32)) := (Below.refl _ wr).alloc (Nat.le_refl _) _
            have hblk := heap_alloc_new wr (.cells #[.int .i64 a.pos, .int .i64 a.epoch, .string a.stream, .int .i64 a.expect, .int .i64 a.session, .int .i64 a.seq, .slice B a.evs.length d] 32)
            go_upto_region 18 with (fail)
            generalize wr.alloc (.cells #[.int .i64 a.pos, .int .i64 a.epoch, .string a.stream, .int .i64 a.expect, .int .i64 a.session, .int .i64 a.seq, .slice B a.evs.length d] 32) = w1 at hB1 hblk ⊢
            have y0 : w1.cell? ⟨wr.heap.size, 0, none⟩ = some (.int .i64 a.pos) := cell_of_row w1 _ 0 _ _ _ hblk
            have g0 : w1.frozen? ⟨wr.heap.size, 0, none⟩ = false := frozen_block hblk 0
            have HS1 := Lib.hid (hS.fresh hB1)
            have HB1 := Lib.hid hB1
            clear x0 x1 x2 x3 x4 x5 x6 hS hB1 hB
            go_wp2_with fail
            refine (applied_any w1 p s F W HS1.out).mono ?_
            rintro e w1' ⟨rfl, rfl⟩
            have hw1 : s.ap + 1 < 1000000 := by omega
            have hw2 : 0 ≤ s.ap + 1 := by omega
            go_upto_region 19 with (fail)
            have hk2 := setCell_block' (o := 0) (v := .int .i64 (s.ap + 1)) hblk
            have hkS : Keeps (fun q => q = wr.heap.size) w1 _ := (Keeps.refl (fun q => q = wr.heap.size) w1).setCell (p := ⟨wr.heap.size, 0, none⟩) (fun _ => rfl) (.int .i64 (s.ap + 1))
            generalize w1.setCell ⟨wr.heap.size, 0, none⟩ (.int .i64 (s.ap + 1)) = w2 at hk2 hkS ⊢
            have y0 : w2.cell? ⟨wr.heap.size, 0, none⟩ = some (.int .i64 (s.ap+1)) := cell_of_row w2 _ 0 _ _ _ hk2
            have y1 : w2.cell? ⟨wr.heap.size, 1, none⟩ = some (.int .i64 (a.epoch)) := cell_of_row w2 _ 1 _ _ _ hk2
            have y2 : w2.cell? ⟨wr.heap.size, 2, none⟩ = some (.string (a.stream)) := cell_of_row w2 _ 2 _ _ _ hk2
            have y3 : w2.cell? ⟨wr.heap.size, 3, none⟩ = some (.int .i64 (a.expect)) := cell_of_row w2 _ 3 _ _ _ hk2
            have y4 : w2.cell? ⟨wr.heap.size, 4, none⟩ = some (.int .i64 (a.session)) := cell_of_row w2 _ 4 _ _ _ hk2
            have y5 : w2.cell? ⟨wr.heap.size, 5, none⟩ = some (.int .i64 (a.seq)) := cell_of_row w2 _ 5 _ _ _ hk2
            have y6 : w2.cell? ⟨wr.heap.size, 6, none⟩ = some (.slice B a.evs.length d) := cell_of_row w2 _ 6 _ _ _ hk2
            have hb2 : Below wr.heap.size wr w2 := Below.keep HB1.out hkS HB1.out.size (fun q hq => by omega)
            have HB2 := Lib.hid (HB.out.trans (hb2.mono HB.out.size))
            have HSf := Lib.hid (HS1.out.keep hkS (fun q hq e => by have := HSlt.out q hq; omega))
            have hbt : BatchOk w2 (fun q => q < w.heap.size) (a.at_ (s.ap + 1)) := by
              have hb := HBO.out.fresh hb2
              exact ⟨hb.1, hb.2.1, hb.2.2.1, by have := HFL.out.2.1; show a.evs.length ≤ _; omega⟩
            have hcall := apply_any w2 (HTb.out.fresh HB2.out) p s F W HSf.out _ (a.at_ (s.ap + 1)) hbt (fun q hq e => by have := HF.out q (HSf.out.wf q e); omega) (by omega) (by have := HFL.out.2.1; have := HL.out; show _ + a.evs.length ≤ _; omega) (by have := HTL.out; omega)
            rw [show (a.at_ (s.ap + 1)).evv = .slice B a.evs.length d from HV.out] at hcall
            rcases hrr : applyS s (a.at_ (s.ap + 1)) with ⟨s', ⟨r1, r2, r3, r4⟩, r5⟩
            rw [hrr] at hcall
            have HC := Lib.hid hcall
            have HRR := Lib.hid hrr
            clear hrr
            have HBT := Lib.hid hbt
            have HBr := Lib.hid hb2
            have HE2 := Lib.hid hk2
            clear hcall hbt hblk g0 hb2 hk2 hkS hw1 hw2
            go_wp2_with fail
            refine HC.out.mono ?_
            rintro e w3 ⟨rfl, hAp⟩
            have hBo : Below w3.heap.size w3 (w3.alloc (.cells #[.int .i64 r1, .int .i64 r2, .int .i64 r3, .int .i64 r4] 37)) := (Below.refl _ _).alloc (Nat.le_refl _) _
            have hob := heap_alloc_new w3 (.cells #[.int .i64 r1, .int .i64 r2, .int .i64 r3, .int .i64 r4] 37)
            obtain ⟨F', W', hM4⟩ := HMS.out.step (a := a.at_ (s.ap + 1)) HBr.out (by rw [HRR.out]; exact hAp) hBo (show a.stream.size ≤ 300 from HFL.out.1)
            have hwW : ¬ W wr.heap.size := fun e => by have := HSlt.out _ (HSf.out.wf _ e); omega
            have he3 : ∃ cs, cs = #[.int .i64 (s.ap + 1), .int .i64 a.epoch, .string a.stream, .int .i64 a.expect, .int .i64 a.session, .int .i64 a.seq, .slice B a.evs.length d] ∧ w3.heap[wr.heap.size]? = some (.cells cs 32 (0, 0)) := by
              obtain ⟨_, _, _, hK⟩ := hAp
              exact ⟨_, rfl, hK.grownTo HE2.out hwW⟩
            obtain ⟨_, rfl, he3⟩ := he3
            have he4 := (Keeps.of_fresh hBo (fun _ => False)).grownTo he3 id
            have hz3 : wr.heap.size ≤ w3.heap.size := by
              obtain ⟨_, _, _, hK⟩ := hAp
              exact Nat.le_trans HBr.out.size hK.size
            have hOs : r5 = 0 → _ := fun h5 => HOK.out.step (a := a.at_ (s.ap + 1)) (by rw [HRR.out]; exact h5)
            have hsame : r5 ≠ 0 → s' = s := fun h5 => by
              have h6 : ¬ (rightB (a.at_ (s.ap + 1)) = true ∧ (a.at_ (s.ap + 1)).pos = s.ap + 1) := fun hh => h5 (by have := apply_ok hh.1 hh.2; rw [HRR.out] at this; exact this)
              have := (apply_err (s := s) (a := a.at_ (s.ap + 1)) (.inl (by
                cases hrb : rightB (a.at_ (s.ap + 1))
                · rfl
                · exact absurd ⟨hrb, rfl⟩ h6))).1
              rw [HRR.out] at this
              exact this
            rw [HRR.out] at hM4 hOs
            have HM4 := Lib.hid hM4
            have HOS := Lib.hid hOs
            have HSM := Lib.hid hsame
            have HVD := Lib.hid (fun b (e : (Value.slice Ad D.length cd).ownBlock = some b) => (HMS.out.done.lt b e).2)
            have HVO := Lib.hid (fun b (e : (Value.slice Ao O.length co).ownBlock = some b) => (HMS.out.outs.lt b e).2)
            go_upto_region 20 with (fail)
            clear y0 y1 y2 y3 y4 y5 y6 hM4 hOs hsame he3 hwW hAp hBo
            generalize w3.alloc (.cells #[.int .i64 r1, .int .i64 r2, .int .i64 r3, .int .i64 r4] 37) = x4 at hob he4 HM4 ⊢
            have HO4 := Lib.hid hob
            have HE4 := Lib.hid he4
            clear hob he4
            by_cases h5 : r5 = 0
            · subst h5
              obtain ⟨hO1, hO2, hO3⟩ := HOS.out rfl
              have HO1 := Lib.hid hO1
              have HO2 := Lib.hid hO2
              have HO3 := Lib.hid hO3
              have hOl : O.length = D.length := by have := HOK.out.len; simpa using this
              have HOL := Lib.hid hOl
              have hDl : D.length ≤ 60 := by have := HMS.out.lD; omega
              clear hO1 hO2 hO3 hOl
              go_wp2_with fail
              obtain ⟨wA, rfl⟩ : ∃ x, x = wr := ⟨_, rfl⟩
              go_loopw [17, 18] (fun kn i wz => ∃ j : Nat, j ≤ D.length ∧ i = .int .i64 j ∧ kn = .bool (knownB ((D.map fun x => x.val).take j) a) ∧ Below x4.heap.size x4 wz) (fun _ i _ => D.length - (intOf i).toNat)
              case atStart => exact ⟨0, Nat.zero_le _, rfl, rfl, Below.refl _ _⟩
              case round =>
                obtain ⟨j, hj, rfl, rfl, hBz⟩ := hrel
                have HBz := Lib.hid hBz
                have HMz := Lib.hid (HM4.out.fresh hBz)
                have HOz := Lib.hid ((Keeps.of_fresh hBz (fun _ => False)).grownTo HO4.out id)
                have HEz := Lib.hid ((Keeps.of_fresh hBz (fun _ => False)).grownTo HE4.out id)
                clear hBz
                by_cases hjt : j < D.length
                · have hjO : j < O.length := by have := HOL.out; omega
                  have hkj : knownB ((D.map fun x => x.val).take (j + 1)) a = (knownB ((D.map fun x => x.val).take j) a || (decide (D[j].val.session = a.session) && decide (D[j].val.seq = a.seq))) := by
                    rw [List.take_succ_eq_append_getElem (by rw [List.length_map]; exact hjt)]
                    simp [knownB]
                  have HKJ := Lib.hid hkj
                  have hO1 := fun e1 e2 => HO1.out j (by rw [List.length_map]; exact hjt) hjO (by rw [List.getElem_map]; exact e1) (by rw [List.getElem_map]; exact e2)
                  have HO1' := Lib.hid hO1
                  obtain ⟨b4, o4, rfl, _, _, hxx⟩ := (HMz.out.done.sl elEns.len).cell_ hjt
                  have hxx : ∀ (i : Nat) (u : Value), (entc D[j].val)[i]? = some u → wr.cell? ⟨b4, o4 + j * 7 + i, none⟩ = some u := hxx
                  obtain ⟨b5, o5, rfl, _, _, hyy⟩ := (HMz.out.outs.sl elOut.len).cell_ hjO
                  have y4 := hxx 4 _ rfl
                  have y5 := hxx 5 _ rfl
                  have e4 : wr.cell? ⟨wA.heap.size, 4, none⟩ = some (.int .i64 a.session) := cell_of_row wr _ 4 _ _ _ HEz.out
                  have e5 : wr.cell? ⟨wA.heap.size, 5, none⟩ = some (.int .i64 a.seq) := cell_of_row wr _ 5 _ _ _ HEz.out
                  have c0 : wr.cell? ⟨w3.heap.size, 0, none⟩ = some (.int .i64 r1) := cell_of_row wr _ 0 _ _ _ HOz.out
                  have c1 : wr.cell? ⟨w3.heap.size, 1, none⟩ = some (.int .i64 r2) := cell_of_row wr _ 1 _ _ _ HOz.out
                  have c2 : wr.cell? ⟨w3.heap.size, 2, none⟩ = some (.int .i64 r3) := cell_of_row wr _ 2 _ _ _ HOz.out
                  have c3 : wr.cell? ⟨w3.heap.size, 3, none⟩ = some (.int .i64 r4) := cell_of_row wr _ 3 _ _ _ HOz.out
                  rcases hoj : O[j] with ⟨q1, q2, q3, q4⟩
                  rw [hoj] at hO1 hyy
                  have u0 := hyy 0 _ rfl
                  have u1 := hyy 1 _ rfl
                  have u2 := hyy 2 _ rfl
                  have u3 := hyy 3 _ rfl
                  simp only [Nat.add_zero] at u0
                  have hbel : ∀ q, Below x4.heap.size x4 (wr.drewN q) := fun q => HBz.out.trans ⟨rfl, rfl, rfl, Nat.le_refl _, fun _ _ => rfl⟩
                  have HBL := Lib.hid hbel
                  have hjj : j ≤ 60 := by omega
                  generalize D[j].val.session = ds at *
                  generalize D[j].val.seq = dq at *
                  clear hxx hyy hoj hkj hbel
                  by_cases hs : ds = a.session
                  · have d3 : (ds == a.session) = true := by simp [hs]
                    by_cases hq : dq = a.seq
                    · have d4 : (dq == a.seq) = true := by simp [hq]
                      have HKJ' := Lib.hid (show knownB ((D.map fun x => x.val).take (j + 1)) a = true by rw [HKJ.out]; simp [hs, hq])
                      by_cases heq : (⟨r1, r2, r3, r4⟩ : Ded.Oc) = ⟨q1, q2, q3, q4⟩
                      · have hd : ocNe ⟨r1, r2, r3, r4⟩ ⟨q1, q2, q3, q4⟩ = false := by rw [heq, ocNe_self]
                        clear hO1 hs hq heq
                        go_wp2_with fail
                        go_quiet (fail)
                        go_wp2_with fail
                        go_quiet (fail)
                        go_wp2_with fail
                        go_roundw
                        case rel => exact ⟨j + 1, hjt, by go_num, by rw [HKJ'.out], HBL.out _⟩
                        case measure => simp [intOf]; omega
                      · have hd : ocNe ⟨r1, r2, r3, r4⟩ ⟨q1, q2, q3, q4⟩ = true := ocNe_iff.2 heq
                        have h3 : r1 = 3 := (hO1 hs hq).resolve_left heq
                        have d6 : (r1 != 3) = false := by simp [h3]
                        clear hO1 hs hq heq h3
                        go_wp2_with fail
                        go_quiet (fail)
                        go_wp2_with fail
                        go_quiet (fail)
                        go_wp2_with fail
                        go_roundw
                        case rel => exact ⟨j + 1, hjt, by go_num, by rw [HKJ'.out], HBL.out _⟩
                        case measure => simp [intOf]; omega
                    · have d4 : (dq == a.seq) = false := by simp [hq]
                      have HKJ' := Lib.hid (show knownB ((D.map fun x => x.val).take (j + 1)) a = knownB ((D.map fun x => x.val).take j) a by rw [HKJ.out]; simp [hq])
                      clear hO1 hs hq
                      go_wp2_with fail
                      go_quiet (fail)
                      go_wp2_with fail
                      go_roundw
                      case rel => exact ⟨j + 1, hjt, by go_num, by rw [HKJ'.out], HBL.out _⟩
                      case measure => simp [intOf]; omega
                  · have d3 : (ds == a.session) = false := by simp [hs]
                    have HKJ' := Lib.hid (show knownB ((D.map fun x => x.val).take (j + 1)) a = knownB ((D.map fun x => x.val).take j) a by rw [HKJ.out]; simp [hs])
                    clear hO1 hs
                    go_wp2_with fail
                    go_quiet (fail)
                    go_wp2_with fail
                    go_roundw
                    case rel => exact ⟨j + 1, hjt, by go_num, by rw [HKJ'.out], HBL.out _⟩
                    case measure => simp [intOf]; omega
                · have hjd : j = D.length := by omega
                  subst hjd
                  have htk : (D.map fun x => x.val).take D.length = D.map fun x => x.val := List.take_of_length_le (by rw [List.length_map]; exact Nat.le_refl _)
                  rw [htk]
                  clear htk
                  cases hkb : knownB (D.map fun x => x.val) a
                  · have one : (a.at_ (s.ap + 1)).evv.oneCell' = true := by
                      show a.evv.oneCell' = true
                      rw [HV.out]; rfl
                    have hBn : Below wr.heap.size wr (wr.alloc (.cells #[.int .i64 (s.ap + 1), .int .i64 a.epoch, .string a.stream, .int .i64 a.expect, .int .i64 a.session, .int .i64 a.seq, .slice B a.evs.length d] 32)) := (Below.refl _ _).alloc (Nat.le_refl _) _
                    have hone := Sl.single (k := 7) (enc := ensc) (x := ⟨a.at_ (s.ap + 1), one⟩) (heap_alloc_new wr (.cells #[.int .i64 (s.ap + 1), .int .i64 a.epoch, .string a.stream, .int .i64 a.expect, .int .i64 a.session, .int .i64 a.seq, .slice B a.evs.length d] 32)) (by show _ = entc (a.at_ (s.ap + 1)); simp only [entc, Ent.at_, HV.out])
                    have hek := HEz.out
                    have y0 : wr.cell? ⟨wA.heap.size, 0, none⟩ = some (.int .i64 (s.ap+1)) := cell_of_row wr _ 0 _ _ _ hek
                    have y1 : wr.cell? ⟨wA.heap.size, 1, none⟩ = some (.int .i64 (a.epoch)) := cell_of_row wr _ 1 _ _ _ hek
                    have y2 : wr.cell? ⟨wA.heap.size, 2, none⟩ = some (.string (a.stream)) := cell_of_row wr _ 2 _ _ _ hek
                    have y3 : wr.cell? ⟨wA.heap.size, 3, none⟩ = some (.int .i64 (a.expect)) := cell_of_row wr _ 3 _ _ _ hek
                    have y4 : wr.cell? ⟨wA.heap.size, 4, none⟩ = some (.int .i64 (a.session)) := cell_of_row wr _ 4 _ _ _ hek
                    have y5 : wr.cell? ⟨wA.heap.size, 5, none⟩ = some (.int .i64 (a.seq)) := cell_of_row wr _ 5 _ _ _ hek
                    have y6 : wr.cell? ⟨wA.heap.size, 6, none⟩ = some (.slice B a.evs.length d) := cell_of_row wr _ 6 _ _ _ hek
                    have HONE := Lib.hid hone
                    have HOW := Lib.hid (HMz.out.done.fresh hBn)
                    have HBN := Lib.hid hBn
                    have HZ3 := Lib.hid hz3
                    have HKB := Lib.hid hkb
                    have HDL := Lib.hid hDl
                    have hσ : 0 ≤ σ ∧ σ ≤ 1000 := by have := HOK.out.sum; have := HL.out; omega
                    have hev : a.evs.length ≤ 20 := HFL.out.2.1
                    have hbmz := Lib.hid (Nat.le_trans HMz.out.bm hBn.size)
                    clear hone hBn hek hz3 hkb hDl hjt hj
                    go_upto_region 31 with (at_builtin; refine elEns.append _ (by rfl) _ _ rfl wm.heap.size _ _ rfl HOW.out _ _ _ rfl HONE.out (by have := HDL.out; simp; omega) hbmz.out ?_; intro v5 w5 hO5 hg5 hat5)
                    have hM5 := HMz.out.growD HBN.out hg5 hat5 hO5 (by have := HMS.out.lD; simp; omega)
                    have hK5 : Keeps (fun q => (Value.slice Ad D.length cd).ownBlock = some q) wr w5 := (Keeps.of_fresh HBN.out _).trans (Keeps.of_grown hg5)
                    have hob := hK5.grownTo HOz.out (fun e => by have := HVD.out _ e; have := HZ3.out; omega)
                    have heb := hK5.grownTo HEz.out (fun e => by have := HVD.out _ e; omega)
                    have c0 : w5.cell? ⟨w3.heap.size, 0, none⟩ = some (.int .i64 r1) := cell_of_row w5 _ 0 _ _ _ hob
                    have c1 : w5.cell? ⟨w3.heap.size, 1, none⟩ = some (.int .i64 r2) := cell_of_row w5 _ 1 _ _ _ hob
                    have c2 : w5.cell? ⟨w3.heap.size, 2, none⟩ = some (.int .i64 r3) := cell_of_row w5 _ 2 _ _ _ hob
                    have c3 : w5.cell? ⟨w3.heap.size, 3, none⟩ = some (.int .i64 r4) := cell_of_row w5 _ 3 _ _ _ hob
                    have hBn : Below w5.heap.size w5 (w5.alloc (.cells #[.int .i64 r1, .int .i64 r2, .int .i64 r3, .int .i64 r4] 37)) := (Below.refl _ _).alloc (Nat.le_refl _) _
                    have hone := Sl.single (k := 4) (enc := Ded.occ) (x := ⟨r1, r2, r3, r4⟩) (heap_alloc_new w5 (.cells #[.int .i64 r1, .int .i64 r2, .int .i64 r3, .int .i64 r4] 37)) rfl
                    have HONE5 := Lib.hid hone
                    have HOW5 := Lib.hid (hM5.outs.fresh hBn)
                    have HBN5 := Lib.hid hBn
                    have HM5 := Lib.hid hM5
                    have HOB5 := Lib.hid hob
                    have HEB5 := Lib.hid heb
                    have hbm5 := Lib.hid (Nat.le_trans hM5.bm hBn.size)
                    have HVO5 := Lib.hid (fun b (e : (Value.slice Ao O.length co).ownBlock = some b) => Nat.lt_of_lt_of_le (HVO.out b e) HZ3.out)
                    clear hone hBn hM5 hK5 hob heb hO5 hg5 hat5 y0 y1 y2 y3 y4 y5 y6
                    go_upto_region 32 with (at_builtin; refine elOut.append _ (by rfl) _ _ rfl wm.heap.size _ _ rfl HOW5.out _ _ _ rfl HONE5.out (by have := HDL.out; have := HOL.out; simp; omega) hbm5.out ?_; intro v6 w6 hO6 hg6 hat6)
                    have hM6 := HM5.out.growO HBN5.out hg6 hat6 hO6
                    have hK6 : Keeps (fun q => (Value.slice Ao O.length co).ownBlock = some q) w5 w6 := (Keeps.of_fresh HBN5.out _).trans (Keeps.of_grown hg6)
                    have hob := hK6.grownTo HOB5.out (fun e => by have := HVO5.out _ e; omega)
                    have heb := hK6.grownTo HEB5.out (fun e => by have := HVO.out _ e; omega)
                    have z0 : w6.cell? ⟨w3.heap.size, 0, none⟩ = some (.int .i64 r1) := cell_of_row w6 _ 0 _ _ _ hob
                    have z6 : w6.cell? ⟨wA.heap.size, 6, none⟩ = some (.slice B a.evs.length d) := cell_of_row w6 _ 6 _ _ _ heb
                    have HM6 := Lib.hid hM6
                    have hOf := HO3.out HKB.out
                    have HOF := Lib.hid hOf
                    clear hM6 hK6 hob heb hO6 hg6 hat6 hOf c0 c1 c2 c3
                    by_cases h1 : r1 = 1
                    · have d6 : (r1 == 1) = true := by simp [h1]
                      go_wp2_with fail
                      go_roundw
                      case rel =>
                        refine ⟨k + 1, s', F', W', D ++ [⟨a.at_ (s.ap + 1), one⟩], O ++ [⟨r1, r2, r3, r4⟩], σ + a.evs.length, hlt, by go_num, rfl, HM6.out, ?_⟩
                        have := HOF.out
                        rw [show addO ⟨r1, r2, r3, r4⟩ (a.at_ (s.ap + 1)) = (a.evs.length : Int) from if_pos h1] at this
                        rw [List.map_append]
                        exact this
                      case measure => simp [intOf]; omega
                    · have d6 : (r1 == 1) = false := by simp [h1]
                      go_wp2_with fail
                      go_roundw
                      case rel =>
                        refine ⟨k + 1, s', F', W', D ++ [⟨a.at_ (s.ap + 1), one⟩], O ++ [⟨r1, r2, r3, r4⟩], σ, hlt, by go_num, rfl, HM6.out, ?_⟩
                        have := HOF.out
                        rw [show addO ⟨r1, r2, r3, r4⟩ (a.at_ (s.ap + 1)) = 0 from if_neg h1, Int.add_zero] at this
                        rw [List.map_append]
                        exact this
                      case measure => simp [intOf]; omega
                  · have hok := HO2.out hkb
                    have HOKK := Lib.hid hok
                    clear hkb hok
                    go_wp2_with fail
                    go_roundw
                    case rel => exact ⟨k + 1, s', F', W', D, O, σ, hlt, by go_num, rfl, HMz.out, HOKK.out⟩
                    case measure => simp [intOf]; omega
            · have d5 : (r5 != 0) = true := by simp [h5]
              have hs5 := HSM.out h5
              subst hs5
              clear h5
              go_wp2_with fail
              go_roundw
              case rel => exact ⟨k + 1, _, F', W', D, O, σ, hlt, by go_num, rfl, HM4.out, HOK.out⟩
              case measure => simp [intOf]; omega
          · have hkd : k = M.length := by omega
            subst hkd
            have hLb : s.L.length ≤ 1000 := by have := hMS.lL; omega
            have HST := Lib.hid hMS.st
            have HSR := Lib.hid hMS.str
            have HBL := Lib.hid hMS.bel
            have hσ : σ = (s.L.length : Int) := hOk.sum
            subst hσ
            clear hMS hOk hlt hk
            go_wp2_with fail
            refine (streams_any _ p s F W HST.out (by omega)).mono ?_
            rintro e w7 ⟨vn, ks, rfl, hKs, hB7, hSn⟩
            obtain ⟨An, cn, rfl, hA5, hA6⟩ := hSn.shape
            unfold maxLen at hA6
            have HKS := Lib.hid hKs
            have HB7 := Lib.hid hB7
            have HSN := Lib.hid hSn
            have HT7 := Lib.hid (HST.out.fresh hB7)
            have hkl := Idx.streams_len hKs
            have HSUM := Lib.hid (Idx.streams_sum hKs)
            clear hKs hB7 hSn
            go_wp2_with fail
            go_loopw [12, 20] (fun sm i wz => ∃ j : Nat, j ≤ ks.length ∧ i = .int .i64 j ∧ sm = .int .i64 ((s.L.length : Int) - Idx.sumS s.L (ks.take j)) ∧ wz = w7) (fun _ i _ => ks.length - (intOf i).toNat)
            case atStart => exact ⟨0, Nat.zero_le _, rfl, by simp [Idx.sumS], rfl⟩
            case round =>
              obtain ⟨j, hj, rfl, rfl, rfl⟩ := hrel
              by_cases hjt : j < ks.length
              · obtain ⟨b4, o4, rfl, _, _, hxx⟩ := HSN.out.cell_ hjt
                have y0 := hxx 0 _ rfl
                simp only [Nat.add_zero, Nat.mul_one] at y0
                have hsz : ks[j].size ≤ maxLen := by have := Idx.streams_size HKS.out HSR.out ks[j] (List.getElem_mem hjt); unfold maxLen; omega
                have hle := Idx.sumS_le s.L ks (j + 1)
                have hsm := HSUM.out
                have htk := Idx.sumS_take s.L ks hjt
                rw [hsm] at hle
                have HTK := Lib.hid htk
                obtain ⟨σ1, hσ1⟩ : ∃ x, Idx.sumS s.L (ks.take j) = x := ⟨_, rfl⟩
                have HS1 := Lib.hid hσ1
                rw [htk, hσ1] at hle
                rw [hσ1]
                clear hσ1
                clear hxx hsm
                have hjj : j ≤ 1000 := by omega
                have hlv : (Idx.ofS s.L ks[j]).length ≤ 1000 := by omega
                have hs1 : σ1 ≤ 1000 := by omega
                have HLE := Lib.hid hle
                clear htk hle
                go_wp2_with fail
                refine (sversion_any _ p s F W HT7.out ks[j] hsz).mono ?_
                rintro e w7' ⟨rfl, rfl⟩
                go_wp2_with fail
                go_roundw
                case rel => exact ⟨j + 1, hjt, by go_num, by rw [HTK.out, HS1.out]; congr 1; omega, by first | rfl | trivial⟩
                case measure => simp [intOf]; omega
              · have hjd : j = ks.length := by omega
                subst hjd
                rw [List.take_length, HSUM.out]
                have hz : ((s.L.length : Int) - (s.L.length : Int) == 0) = true := by simp
                go_wp2_with fail
                go_ret
                exact ⟨rfl, HBL.out.trans (HB7.out.mono HBL.out.size)⟩
      · obtain ⟨hlt, h0⟩ := hbb rfl
        clear hbb
        obtain ⟨b, o, rfl, _, _, hxx⟩ := (HNs.out.fresh HB.out).cell_ hlt
        have x0 := hxx 0 _ rfl
        simp only [Nat.add_zero, Nat.mul_one] at x0
        clear hxx
        go_wp2_with fail
        refine (pick_any wr ns[k] (HNr.out _ (List.getElem_mem hlt)) l.length h0 (by omega)).mono ?_
        rintro e wr' ⟨j, hj, rfl, rfl⟩
        have hjL : j < L.length := by have := HLL.out; omega
        obtain ⟨b2, o2, rfl, _, _, hxx⟩ := (HSL.out.fresh HB.out).cell_ hjL
        have hxx : ∀ (i : Nat) (u : Value), (entc L[j].val)[i]? = some u → wr.cell? ⟨b2, o2 + j * 7 + i, none⟩ = some u := hxx
        obtain ⟨B, d, hv, _, _⟩ := (HME.out L[j] (List.getElem_mem hjL)).1.1.shape
        have hone := fun (cs : Array Value) (hcs : cs.toList = ensc L[j]) => Sl.single (k := 7) (enc := ensc) (x := L[j]) (heap_alloc_new wr (.cells cs 32)) hcs
        generalize hea : L[j].val = a at hxx hv
        have y0 := hxx 0 _ rfl
        have y1 := hxx 1 _ rfl
        have y2 := hxx 2 _ rfl
        have y3 := hxx 3 _ rfl
        have y4 := hxx 4 _ rfl
        have y5 := hxx 5 _ rfl
        have y6 := hxx 6 _ rfl
        rw [hv] at y6
        simp only [Nat.add_zero] at y0
        have hBn : Below wr.heap.size wr (wr.alloc (.cells #[.int .i64 a.pos, .int .i64 a.epoch, .string a.stream, .int .i64 a.expect, .int .i64 a.session, .int .i64 a.seq, .slice B a.evs.length d] 32)) := (Below.refl _ _).alloc (Nat.le_refl _) _
        have HONE := Lib.hid (hone #[.int .i64 a.pos, .int .i64 a.epoch, .string a.stream, .int .i64 a.expect, .int .i64 a.session, .int .i64 a.seq, .slice B a.evs.length d] (by show _ = entc L[j].val; rw [hea]; simp only [entc, hv]))
        have HOW := Lib.hid (HO.out.fresh hBn)
        have HBN := Lib.hid hBn
        have HBwc := Lib.hid HBc.out.size
        have hwcr := (HO.out.lt)
        clear hxx hone hBn hv hea hwcr
        have HMl := Lib.hid hM
        clear hM
        go_wp2_with (at_builtin; refine elEns.append _ (by rfl) _ _ rfl wc.heap.size _ _ rfl HOW.out _ _ _ rfl HONE.out (by have := HMl.out; have := HLL.out; simp; omega) (Nat.le_trans HBq.out.size HBN.out.size) ?_; intro v' w' hO' hgr hAt)
        go_roundw
        case rel =>
          have hKg : Keeps (fun q => (Value.slice Av M.length cv).ownBlock = some q) wr w' := (Keeps.of_fresh HBN.out _).trans (Keeps.of_grown hgr)
          refine ⟨k + 1, M ++ [L[j]], hlt, by go_num, hO', by have := HMl.out; simp; omega, fun x hx => ?_, HS.out.keep hKg (fun q hq e => by have := (HO.out.lt q e).1; omega), Below.keep HBq.out hKg HBq.out.size (fun q e => (HO.out.lt q e).1)⟩
          rcases List.mem_append.1 hx with e | e
          · exact HML.out x e
          · rw [List.mem_singleton.1 e]
            exact List.getElem_mem hjL
        case measure => simp [intOf]; omega
end Go.Proofs.YtlfhokcjbgpjhaaDoor
