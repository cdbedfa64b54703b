/- Records: Follows, Marks, at; a plain entry. Under the tables that utf8 lays. -/
import Derived.Test.YtimfoijajafdpaaDoorRecA
import Derived.Test.YtimfoijajafdpaaDoorRecP
import Derived.Test.YtimfoijajafdpaaDoorBlL
namespace Go.Proofs.YtimfoijajafdpaaDoor
open Go.RowKit Go.Bl
attribute [local go_sem ↓] Go.wp_at_zero Go.wp_at_succ

def Ents (w : World) (G : Nat → Prop) (v : Value) (l : List Ent) : Prop := Sl w G 7 entc v l ∧ ∀ a ∈ l, BatchOk w G a
theorem Ents.fresh {w w' : World} {G : Nat → Prop} {v : Value} {l : List Ent} (h : Ents w G v l) (hB : Below w.heap.size w w') : Ents w' G v l := ⟨h.1.fresh hB, fun a ha => (h.2 a ha).fresh hB⟩
def followsB : List Ent → Int → Int → Bool
  | [], _, _ => true
  | e :: l, pos, epoch => if (e.pos != wrap64 (pos + 1)) = true then false else if e.epoch < epoch then false else if rightB e = false then false else followsB l e.pos e.epoch

set_option maxRecDepth 8000 in
set_option maxHeartbeats 2000000 in
theorem follows_any (w : World) (hT : Tabs w) (G : Nat → Prop) (v : Value) (l : List Ent) (h : Ents w G v l) (_hl : l.length ≤ 1000000) (pos epoch : Int) :
    Calls Tryd.prog 10 #[v, .int .i64 pos, .int .i64 epoch] w fun x w' => x = .returned (.bool (followsB l pos epoch)) ∧ Below w.heap.size w w' := by
  obtain ⟨A, c, rfl, hA1, hA2⟩ := h.1.shape
  unfold maxLen at hA2
  have HS := Lib.hid h
  have HT := Lib.hid hT
  obtain ⟨r, hr⟩ : ∃ r, followsB l pos epoch = r := ⟨_, rfl⟩
  rw [hr]
  have HR := Lib.hid hr
  clear h hT hr
  go_enter Tryd.func10, Tryd.ntmps10
  go_wp2_with fail
  go_loopw [11, 1, 2, 8] (fun i ps ep _ wr => ∃ (k : Nat) (p1 e1 : Int), k ≤ l.length ∧ i = .int .i64 k ∧ ps = .int .i64 p1 ∧ ep = .int .i64 e1 ∧ followsB (l.drop k) p1 e1 = r ∧ Below w.heap.size w wr) (fun i _ _ _ _ => l.length - (intOf i).toNat)
  case atStart => exact ⟨0, pos, epoch, Nat.zero_le _, rfl, rfl, rfl, by simpa using HR.out, Below.refl _ _⟩
  case round =>
    obtain ⟨k, p1, e1, hk, rfl, rfl, rfl, hf, hB⟩ := hrel
    have HB := Lib.hid hB
    have HF := Lib.hid hf
    clear hB hf
    by_cases hlt : k < l.length
    · have hAr := HS.out.fresh HB.out
      obtain ⟨b, o, rfl, _, _, hxx⟩ := hAr.1.cell_ hlt
      have hbo := hAr.2 l[k] (List.getElem_mem hlt)
      obtain ⟨B, d, hv, _, _⟩ := hbo.1.shape
      have x0 := hxx 0 _ rfl
      have x1 := hxx 1 _ rfl
      have x2 := hxx 2 _ rfl
      have x3 := hxx 3 _ rfl
      have x4 := hxx 4 _ rfl
      have x5 := hxx 5 _ rfl
      have x6 := hxx 6 _ rfl
      rw [hv] at x6
      simp only [Nat.add_zero] at x0
      have hrt := fun wz (hz : Below wr.heap.size wr wz) => right_any wz (HT.out.fresh (HB.out.trans (hz.mono HB.out.size))) G l[k] (hbo.fresh hz)
      rw [hv] at hrt
      have HRT := Lib.hid hrt
      have hfd := HF.out
      rw [List.drop_eq_getElem_cons hlt] at hfd
      have hfd : (if (l[k].pos != wrap64 (p1 + 1)) = true then false else if l[k].epoch < e1 then false else if rightB l[k] = false then false else followsB (l.drop (k + 1)) l[k].pos l[k].epoch) = r := hfd
      have HFD := Lib.hid hfd
      clear hxx hAr hbo hv hrt hfd
      go_upto_region 4 with (fail)
      have hWb : Below wr.heap.size wr (wr.alloc (.cells #[.int .i64 l[k].pos, .int .i64 l[k].epoch, .string l[k].stream, .int .i64 l[k].expect, .int .i64 l[k].session, .int .i64 l[k].seq, .slice B l[k].evs.length d] 29)) := (Below.refl _ wr).alloc (Nat.le_refl _) _
      have hblk := heap_alloc_new wr (.cells #[.int .i64 l[k].pos, .int .i64 l[k].epoch, .string l[k].stream, .int .i64 l[k].expect, .int .i64 l[k].session, .int .i64 l[k].seq, .slice B l[k].evs.length d] 29)
      generalize wr.alloc (.cells #[.int .i64 l[k].pos, .int .i64 l[k].epoch, .string l[k].stream, .int .i64 l[k].expect, .int .i64 l[k].session, .int .i64 l[k].seq, .slice B l[k].evs.length d] 29) = w1 at hWb hblk ⊢
      have HWb := Lib.hid hWb
      have HBL := Lib.hid hblk
      have y0 : w1.cell? ⟨wr.heap.size, 0, none⟩ = some (.int .i64 l[k].pos) := cell_of_row w1 _ 0 _ _ _ hblk
      have y1 : w1.cell? ⟨wr.heap.size, 1, none⟩ = some (.int .i64 l[k].epoch) := cell_of_row w1 _ 1 _ _ _ hblk
      have y2 : w1.cell? ⟨wr.heap.size, 2, none⟩ = some (.string l[k].stream) := cell_of_row w1 _ 2 _ _ _ hblk
      have y3 : w1.cell? ⟨wr.heap.size, 3, none⟩ = some (.int .i64 l[k].expect) := cell_of_row w1 _ 3 _ _ _ hblk
      have y4 : w1.cell? ⟨wr.heap.size, 4, none⟩ = some (.int .i64 l[k].session) := cell_of_row w1 _ 4 _ _ _ hblk
      have y5 : w1.cell? ⟨wr.heap.size, 5, none⟩ = some (.int .i64 l[k].seq) := cell_of_row w1 _ 5 _ _ _ hblk
      have y6 : w1.cell? ⟨wr.heap.size, 6, none⟩ = some (.slice B l[k].evs.length d) := cell_of_row w1 _ 6 _ _ _ hblk
      have hgl := (Array.getElem?_eq_some_iff.1 hblk).1
      have HB1 := Lib.hid (HB.out.trans (hWb.mono HB.out.size))
      clear x0 x1 x2 x3 x4 x5 x6 hWb hblk
      cases hd1 : (l[k].pos != wrap64 (p1 + 1))
      · by_cases h2 : l[k].epoch < e1
        · have d2 : decide (l[k].epoch < e1) = true := decide_eq_true h2
          go_wp2_with fail
          go_ret
          have := HFD.out
          rw [if_neg (by rw [hd1]; decide), if_pos h2] at this
          exact ⟨by rw [← this]; rfl, HB1.out⟩
        · have d2 : decide (l[k].epoch < e1) = false := decide_eq_false h2
          go_wp2_with fail
          refine (HRT.out w1 HWb.out).mono ?_
          rintro x w2 ⟨rfl, hB2⟩
          have z0 := (hB2.cell (p := ⟨wr.heap.size, 0, none⟩) hgl).trans y0
          have z1 := (hB2.cell (p := ⟨wr.heap.size, 1, none⟩) hgl).trans y1
          have HB2 := Lib.hid (HB1.out.trans (hB2.mono HB1.out.size))
          clear hB2 y0 y1 y2 y3 y4 y5 y6
          cases hrb : rightB l[k]
          · go_wp2_with fail
            go_ret
            have := HFD.out
            rw [if_neg (by rw [hd1]; decide), if_neg (show ¬ l[k].epoch < e1 by omega), if_pos hrb] at this
            exact ⟨by rw [← this]; rfl, HB2.out⟩
          · go_wp2_with fail
            go_quiet (fail)
            go_wp2_with fail
            have hfin := HFD.out
            rw [if_neg (by rw [hd1]; decide), if_neg (show ¬ l[k].epoch < e1 by omega), if_neg (by rw [hrb]; decide)] at hfin
            go_roundw
            case rel => exact ⟨k + 1, _, _, hlt, by go_num, rfl, rfl, hfin, HB2.out.trans ⟨rfl, rfl, rfl, Nat.le_refl _, fun _ _ => rfl⟩⟩
            case measure => simp [intOf]; omega
      · go_wp2_with fail
        go_ret
        have := HFD.out
        rw [if_pos hd1] at this
        exact ⟨by rw [← this]; rfl, HB1.out⟩
    · have hkd : k = l.length := by omega
      subst hkd
      go_wp2_with fail
      go_ret
      have := HF.out
      rw [List.drop_length] at this
      exact ⟨by rw [← this]; rfl, HB.out⟩

def mkc (m : Mk) : List Value := [.int .i64 m.epoch, .int .i64 m.first]
theorem mkc_one (x : Mk) (u : Value) (h : u ∈ mkc x) : u.oneCell' = true := by
  simp only [mkc, List.mem_cons, List.not_mem_nil, or_false] at h
  rcases h with rfl | rfl <;> rfl
theorem infoMk : (Tryd.prog.info? 37).map (fun i => (i.zero, i.size, i.bytes)) = some (some (.agg #[.int .i64 0, .int .i64 0]), 2, 16) := by kernel_rfl
theorem elMk : El Tryd.prog 33 37 2 16 mkc := ⟨Tryd.underlying33, ⟨_, infoMk, rfl⟩, by decide, by decide, fun _ => rfl, mkc_one⟩

set_option maxHeartbeats 1000000 in
theorem at_any (w : World) (G : Nat → Prop) (v : Value) (l : List Mk) (h : Sl w G 2 mkc v l) (_hl : l.length ≤ 1000000) (p : Int) :
    Calls Tryd.prog 29 #[v, .int .i64 p] w fun x w' => x = .returned (.int .i64 (atM l p)) ∧ Below w.heap.size w w' := by
  obtain ⟨A, c, rfl, hA1, hA2⟩ := h.shape
  unfold maxLen at hA2
  have HS := Lib.hid h
  clear h
  go_enter Tryd.func29, Tryd.ntmps29
  go_wp2_with fail
  go_loopw [10, 5, 7] (fun i n _ wr => ∃ k : Nat, k ≤ l.length ∧ i = .int .i64 k ∧ n = .int .i64 (atM (l.take k) p) ∧ Below w.heap.size w wr) (fun i _ _ _ => l.length - (intOf i).toNat)
  case atStart => exact ⟨0, Nat.zero_le _, rfl, rfl, Below.refl _ _⟩
  case round =>
    obtain ⟨k, hk, rfl, rfl, hB⟩ := hrel
    have HB := Lib.hid hB
    clear hB
    by_cases hlt : k < l.length
    · obtain ⟨b, o, rfl, _, _, hxx⟩ := (HS.out.fresh HB.out).cell_ hlt
      have x0 := hxx 0 _ rfl
      have x1 := hxx 1 _ rfl
      simp only [Nat.add_zero] at x0
      clear hxx
      have hsn : atM (l.take (k + 1)) p = if l[k].first ≤ p then l[k].epoch else atM (l.take k) p := by rw [List.take_succ_eq_append_getElem hlt, atM_snoc]
      have HSN := Lib.hid hsn
      clear hsn
      go_upto_region 5 with (fail)
      have hWb : Below wr.heap.size wr (wr.alloc (.cells #[.int .i64 l[k].epoch, .int .i64 l[k].first] 37)) := (Below.refl _ wr).alloc (Nat.le_refl _) _
      have hblk := heap_alloc_new wr (.cells #[.int .i64 l[k].epoch, .int .i64 l[k].first] 37)
      generalize wr.alloc (.cells #[.int .i64 l[k].epoch, .int .i64 l[k].first] 37) = w1 at hWb hblk ⊢
      have y0 : w1.cell? ⟨wr.heap.size, 0, none⟩ = some (.int .i64 l[k].epoch) := cell_of_row w1 _ 0 _ _ _ hblk
      have y1 : w1.cell? ⟨wr.heap.size, 1, none⟩ = some (.int .i64 l[k].first) := cell_of_row w1 _ 1 _ _ _ hblk
      have HB1 := Lib.hid (HB.out.trans (hWb.mono HB.out.size))
      clear hWb hblk x0 x1
      by_cases h1 : l[k].first ≤ p
      · have d1 : decide (l[k].first ≤ p) = true := decide_eq_true h1
        go_wp2_with fail
        go_roundw
        case rel => exact ⟨k + 1, hlt, by go_num, by rw [HSN.out, if_pos h1], HB1.out⟩
        case measure => simp [intOf]; omega
      · have d1 : decide (l[k].first ≤ p) = false := decide_eq_false h1
        go_wp2_with fail
        go_roundw
        case rel => exact ⟨k + 1, hlt, by go_num, by rw [HSN.out, if_neg h1], HB1.out⟩
        case measure => simp [intOf]; omega
    · have hkd : k = l.length := by omega
      subst hkd
      go_wp2_with fail
      go_ret
      exact ⟨by rw [List.take_length]; rfl, HB.out⟩

def peOf (l : List Ent) : List (Int × Int) := l.map fun a => (a.pos, a.epoch)
theorem peOf_get {l : List Ent} {k : Nat} (h : k < l.length) : ((peOf l)[k]?).getD (0, 0) = (l[k].pos, l[k].epoch) := by simp [peOf, h]
theorem peOf_len (l : List Ent) : (peOf l).length = l.length := by simp [peOf]

set_option maxRecDepth 8000 in
set_option maxHeartbeats 2000000 in
theorem marks_any (w : World) (G : Nat → Prop) (_hG : ∀ k, G k → k < w.heap.size) (v : Value) (l : List Ent) (h : Ents w G v l) (hl : l.length ≤ 1000000) :
    Calls Tryd.prog 12 #[v] w fun x w' => ∃ v', x = .returned v' ∧ Own w' w.heap.size 37 2 mkc v' (marksN (peOf l) l.length) ∧ Below w.heap.size w w' := by
  obtain ⟨A, c, rfl, hA1, hA2⟩ := h.1.shape
  unfold maxLen at hA2
  have HS := Lib.hid h
  clear h
  go_enter Tryd.func12, Tryd.ntmps12
  go_wp2_with fail
  go_loopw [8, 3, 4, 5] (fun i ms _ _ wr => ∃ k : Nat, k ≤ l.length ∧ i = .int .i64 k ∧ Own wr w.heap.size 37 2 mkc ms (marksN (peOf l) k) ∧ Below w.heap.size w wr) (fun i _ _ _ _ => l.length - (intOf i).toNat)
  case atStart => exact ⟨0, Nat.zero_le _, rfl, Own.nil_ _ _ _ _ _, Below.refl _ _⟩
  case round =>
    obtain ⟨k, hk, rfl, hO, hB⟩ := hrel
    have HB := Lib.hid hB
    obtain ⟨Am, cm, rfl, _, _⟩ := hO.shape_ rfl
    have HO := Lib.hid hO
    have hml := marksN_len (peOf l) k
    clear hB hO
    by_cases hlt : k < l.length
    · have hAr := HS.out.fresh HB.out
      obtain ⟨b, o, rfl, hGb, hbl, hxx⟩ := hAr.1.cell_ hlt
      have hbo := hAr.2 l[k] (List.getElem_mem hlt)
      obtain ⟨B, d, hv, _, _⟩ := hbo.1.shape
      have x0 := hxx 0 _ rfl
      have x1 := hxx 1 _ rfl
      have x2 := hxx 2 _ rfl
      have x3 := hxx 3 _ rfl
      have x4 := hxx 4 _ rfl
      have x5 := hxx 5 _ rfl
      have x6 := hxx 6 _ rfl
      rw [hv] at x6
      simp only [Nat.add_zero] at x0
      have HAr := Lib.hid hAr
      clear hxx hAr hbo hv
      go_upto_region 5 with (fail)
      have hWb : Below wr.heap.size wr (wr.alloc (.cells #[.int .i64 l[k].pos, .int .i64 l[k].epoch, .string l[k].stream, .int .i64 l[k].expect, .int .i64 l[k].session, .int .i64 l[k].seq, .slice B l[k].evs.length d] 29)) := (Below.refl _ wr).alloc (Nat.le_refl _) _
      have hblk := heap_alloc_new wr (.cells #[.int .i64 l[k].pos, .int .i64 l[k].epoch, .string l[k].stream, .int .i64 l[k].expect, .int .i64 l[k].session, .int .i64 l[k].seq, .slice B l[k].evs.length d] 29)
      generalize wr.alloc (.cells #[.int .i64 l[k].pos, .int .i64 l[k].epoch, .string l[k].stream, .int .i64 l[k].expect, .int .i64 l[k].session, .int .i64 l[k].seq, .slice B l[k].evs.length d] 29) = w1 at hWb hblk ⊢
      have y0 : w1.cell? ⟨wr.heap.size, 0, none⟩ = some (.int .i64 l[k].pos) := cell_of_row w1 _ 0 _ _ _ hblk
      have y1 : w1.cell? ⟨wr.heap.size, 1, none⟩ = some (.int .i64 l[k].epoch) := cell_of_row w1 _ 1 _ _ _ hblk
      have HB1 := Lib.hid (HB.out.trans (hWb.mono HB.out.size))
      have HO1 := Lib.hid (HO.out.fresh hWb)
      have hsz1 := hWb.size
      have hgl := (Array.getElem?_eq_some_iff.1 hblk).1
      have HWb := Lib.hid hWb
      clear x0 x1 x2 x3 x4 x5 x6 hWb hblk HO
      have hmk : marksN (peOf l) (k + 1) = if k = 0 ∨ ((peOf l)[k]?.getD (0, 0)).2 ≠ ((peOf l)[k - 1]?.getD (0, 0)).2 then marksN (peOf l) k ++ [⟨((peOf l)[k]?.getD (0, 0)).2, ((peOf l)[k]?.getD (0, 0)).1⟩] else marksN (peOf l) k := rfl
      rw [peOf_get hlt] at hmk
      have HMK := Lib.hid hmk
      clear hmk
      go_cut [25] (fun s25 wx => ∃ (q : Nat) (bb : Bool), s25 = .bool bb ∧ (bb = true ↔ (k = 0 ∨ l[k].epoch ≠ ((peOf l)[k - 1]?.getD (0, 0)).2)) ∧ w1.drewN q = wx)
      case first =>
        by_cases hk0 : k = 0
        · subst hk0
          go_wp2_with fail
          go_quiet (fail)
          go_wp2_with fail
          go_meet
          exact ⟨nq, true, rfl, by simp, rfl⟩
        · have hk1 : k - 1 < l.length := by omega
          obtain ⟨b5, o5, he5, _, _, hx5⟩ := HAr.out.1.cell_ hk1
          injection he5 with he5
          injection he5 with he5 he6
          subst he5 he6
          have z1 := (HWb.out.cell (p := ⟨b, _, none⟩) hbl).trans (hx5 1 _ rfl)
          have hkm : wrap64 ((k : Int) - 1) = ((k - 1 : Nat) : Int) := by unfold wrap64; omega
          have hkz : ((k : Int) == 0) = false := by rw [beq_eq_false_iff_ne]; omega
          clear hx5
          go_wp2_with fail
          go_quiet (fail)
          go_wp2_with fail
          go_meet
          refine ⟨nq, l[k].epoch != l[k - 1].epoch, rfl, ?_, rfl⟩
          rw [peOf_get hk1]
          simp [hk0]
      case rest =>
        obtain ⟨q, bb, rfl, hbb, rfl⟩ := hcut
        have HBB := Lib.hid hbb
        clear hbb
        cases bb
        · go_wp2_with fail
          go_roundw
          case rel =>
            refine ⟨k + 1, hlt, by go_num, ?_, HB1.out.trans ⟨rfl, rfl, rfl, Nat.le_refl _, fun _ _ => rfl⟩⟩
            rw [HMK.out, if_neg (fun h => by have := HBB.out.2 h; cases this)]
            exact HO1.out.drewN q
          case measure => simp [intOf]; omega
        · have hone : Sl ((w1.drewN q).alloc (.cells #[.int .i64 l[k].epoch, .int .i64 l[k].pos] 37)) (fun b => b = w1.heap.size) 2 mkc (.slice (some ⟨w1.heap.size, 0, none⟩) 1 1) [⟨l[k].epoch, l[k].pos⟩] := Sl.single (heap_alloc_new (w1.drewN q) _) rfl
          have hOw : Own ((w1.drewN q).alloc (.cells #[.int .i64 l[k].epoch, .int .i64 l[k].pos] 37)) w.heap.size 37 2 mkc (.slice Am (marksN (peOf l) k).length cm) (marksN (peOf l) k) := (HO1.out.drewN q).fresh ((Below.refl _ _).alloc (Nat.le_refl _) _)
          have hsw : w.heap.size ≤ w1.heap.size := HB1.out.size
          have HONE := Lib.hid hone
          have HOW := Lib.hid hOw
          clear hone hOw
          go_wp2_with (at_builtin; refine elMk.append _ (by rfl) _ _ rfl w.heap.size _ _ rfl HOW.out _ _ _ rfl HONE.out (by simp; omega) (by simp; omega) ?_; intro v' w' hO' hgr hAt)
          go_roundw
          case rel =>
            refine ⟨k + 1, hlt, by go_num, ?_, ?_⟩
            · rw [HMK.out, if_pos (HBB.out.1 rfl)]
              exact hO'
            · have h1 : Below w.heap.size w ((w1.drewN q).alloc (.cells #[.int .i64 l[k].epoch, .int .i64 l[k].pos] 37)) := (show Below w.heap.size w (w1.drewN q) from HB1.out.trans ⟨rfl, rfl, rfl, Nat.le_refl _, fun _ _ => rfl⟩).alloc hsw _
              exact Below.keep h1 (Keeps.of_grown hgr) (by simp; omega) (fun z hz => (HOW.out.lt z hz).1)
          case measure => simp [intOf]; omega
    · have hkd : k = l.length := by omega
      subst hkd
      go_wp2_with fail
      go_ret
      exact ⟨_, rfl, HO.out, HB.out⟩

/-- A plain entry. -/
def plainE (g : Nat) (pos epoch : Int) : Ent := ⟨pos, epoch, ⟨#[115]⟩, 0, 1, 1, .slice (some ⟨g, 0, none⟩) 1 1, [⟨⟨#[107]⟩, ⟨#[]⟩⟩]⟩
set_option maxHeartbeats 1000000 in
theorem plain_any (w : World) (pos epoch : Int) :
    Calls Tryd.prog 9 #[.int .i64 pos, .int .i64 epoch] w fun x w' => ∃ g, w.heap.size ≤ g ∧ g < w'.heap.size ∧ x = .returned (.agg (entc (plainE g pos epoch)).toArray) ∧ w'.heap[g]? = some (.cells #[.string ⟨#[107]⟩, .string ⟨#[]⟩] 55 (0, 0)) ∧ Below w.heap.size w w' := by
  go_enter Tryd.func9, Tryd.ntmps9
  go_wp2_with fail
  refine bodyPost_ret (v := .agg (entc (plainE (w.heap.size + 1) pos epoch)).toArray) (by simp [results, Tryd.results9, go_sem, entc, plainE]) rfl ⟨w.heap.size + 1, by omega, by simp, rfl, ?_, ((Below.refl _ w).alloc (Nat.le_refl _) _).alloc (by simp) _⟩
  have := heap_alloc_new (w.alloc (.cells #[.int .i64 pos, .int .i64 epoch, .string ⟨#[115]⟩, .int .i64 0, .int .i64 1, .int .i64 1, .slice (some ⟨w.heap.size + 1, 0, none⟩) 1 1] 29)) (.cells #[.string ⟨#[107]⟩, .string ⟨#[]⟩] 55)
  rw [World.size_alloc] at this
  exact this
end Go.Proofs.YtimfoijajafdpaaDoor
