/- The document's disk (bucketlineref8): what a block of it holds; New, find, Used, Read, Synced, List. Under the stated premises on sizes. -/
import Derived.Test.YtiphnobefigibaaDoorDskT
import Derived.Test.YtiphnobefigibaaDoorBlL
import Derived.Test.YtiphnobefigibaaDoorBlR
import Derived.Test.YtiphnobefigibaaDoorBlQ
namespace Go.Proofs.YtiphnobefigibaaDoor
open Go.RowKit Go.Bl
attribute [local go_sem ↓] Go.wp_at_zero Go.wp_at_succ

def filc (f : Fl) : List Value := [.string f.name, .string f.bytes, .int .i64 f.syn]
theorem filc_one (x : Fl) (u : Value) (h : u ∈ filc x) : u.oneCell' = true := by
  simp only [filc, List.mem_cons, List.not_mem_nil, or_false] at h
  rcases h with rfl | rfl | rfl <;> rfl
theorem infoFl : (Tryd.prog.info? 68).map (fun i => (i.zero, i.size, i.bytes)) = some (some (.agg #[.string ByteArray.empty, .string ByteArray.empty, .int .i64 0]), 3, 40) := by kernel_rfl
theorem elFl : El Tryd.prog 62 68 3 40 filc := ⟨Tryd.underlying62, ⟨_, infoFl, rfl⟩, by decide, by decide, fun _ => rfl, filc_one⟩
theorem strcD_one (x : ByteArray) (u : Value) (h : u ∈ strc x) : u.oneCell' = true := by
  simp only [strc, List.mem_cons, List.not_mem_nil, or_false] at h
  subst h; rfl
theorem infoStrD : (Tryd.prog.info? 9).map (fun i => (i.zero, i.size, i.bytes)) = some (some (.string ByteArray.empty), 1, 16) := by kernel_rfl
theorem elStrD : El Tryd.prog 49 9 1 16 strc := ⟨Tryd.underlying49, ⟨_, infoStrD, rfl⟩, by decide, by decide, fun _ => rfl, strcD_one⟩

/-- Block m of w is the document's disk of these files. -/
structure MdIn (w : World) (m : Nat) (room : Int) (S : List Fl) (F : Nat → Prop) (v : Value) : Prop where
  blk : w.heap[m]? = some (.cells #[v, .int .i64 room] 64 (0, 0))
  row : Own w 0 68 3 filc v S
  fm : F m
  fv : ∀ b, v.ownBlock = some b → F b
  lt : ∀ k, F k → k < w.heap.size
def MdAt (w : World) (m : Nat) (room : Int) (S : List Fl) (F : Nat → Prop) : Prop := ∃ v, MdIn w m room S F v
section
variable {w w' : World} {m : Nat} {room : Int} {S : List Fl} {F G : Nat → Prop} {v : Value}
theorem MdIn.keep (h : MdIn w m room S F v) (hk : Keeps G w w') (hd : ∀ k, F k → ¬ G k) : MdIn w' m room S F v :=
  ⟨hk.grownTo h.blk (hd _ h.fm), h.row.keep hk (fun b hb => hd b (h.fv b hb)), h.fm, h.fv, fun k hF => Nat.lt_of_lt_of_le (h.lt k hF) hk.size⟩
theorem MdAt.keep (h : MdAt w m room S F) (hk : Keeps G w w') (hd : ∀ k, F k → ¬ G k) : MdAt w' m room S F := by
  obtain ⟨v, h⟩ := h
  exact ⟨v, h.keep hk hd⟩
theorem MdIn.fresh (h : MdIn w m room S F v) (hk : Below w.heap.size w w') : MdIn w' m room S F v := h.keep (Keeps.of_fresh hk fun _ => False) (fun _ _ => id)
theorem MdAt.fresh (h : MdAt w m room S F) (hk : Below w.heap.size w w') : MdAt w' m room S F := h.keep (Keeps.of_fresh hk fun _ => False) (fun _ _ => id)
theorem MdAt.lt (h : MdAt w m room S F) : ∀ k, F k → k < w.heap.size := by obtain ⟨v, h⟩ := h; exact h.lt
theorem MdAt.fm (h : MdAt w m room S F) : F m := by obtain ⟨v, h⟩ := h; exact h.fm
theorem MdIn.c0 (h : MdIn w m room S F v) : w.cell? ⟨m, 0, none⟩ = some v := cell_of_row w m 0 _ _ _ h.blk
theorem MdIn.c1 (h : MdIn w m room S F v) : w.cell? ⟨m, 1, none⟩ = some (.int .i64 room) := cell_of_row w m 1 _ _ _ h.blk
theorem MdIn.vp (h : MdIn w m room S F v) (e : v.ownBlock = some m) : False := by
  obtain ⟨_, h2⟩ := h.row
  rcases h2 with ⟨h2, _⟩ | ⟨g, cap, cur, h2, _, h3, _⟩
  · rw [h2] at e; simp [Value.ownBlock] at e
  · rw [h2] at e
    simp [Value.ownBlock] at e
    subst e
    rw [h.blk] at h3
    simp at h3
end
/-- The file of a name. -/
def fdS (S : List Fl) (x : ByteArray) : Option Fl := if isF S x = true then S[aheadF S x]? else none
theorem Srt.find {d : Dk} {S : List Fl} (h : Srt d S) (x : ByteArray) : d.find x = fdS S x := by
  unfold fdS
  cases hx : isF S x
  · rw [if_neg (by decide)]
    exact h.none hx
  · obtain ⟨hk, _⟩ := isF_yes hx
    rw [if_pos rfl, List.getElem?_eq_getElem hk]
    exact h.some hx (fun _ => rfl)

set_option maxHeartbeats 1000000 in
theorem mnew_ok (w : World) (room : Int) (h1 : 1 ≤ room) (h2 : room ≤ 1073741824) : Calls Tryd.prog 17 #[.int .i64 room] w fun e w' => ∃ m, e = .returned (.tuple #[.pointer (some ⟨m, 0, none⟩), .int .i64 0]) ∧
    MdAt w' m room [] (fun k => w.heap.size ≤ k ∧ k < w'.heap.size) ∧ Below w.heap.size w w' := by
  have d1 : decide (room < 1) = false := decide_eq_false (by omega)
  have d2 : decide (room > 1073741824) = false := decide_eq_false (by omega)
  go_enter Tryd.func17, Tryd.ntmps17
  go_wp2_with fail
  go_ret2
  have hb := heap_alloc_new w (.cells #[.slice none 0 0, .int .i64 room] 64)
  refine ⟨w.heap.size, rfl, ⟨_, hb, Own.nil_ _ _ _ _ _, ⟨Nat.le_refl _, by simp⟩, fun b e => by simp [Value.ownBlock] at e, fun k e => e.2⟩, (Below.refl _ _).alloc (Nat.le_refl _) _⟩

set_option maxRecDepth 8000 in
set_option maxHeartbeats 2000000 in
theorem find_any (w : World) (m : Nat) (room : Int) (S : List Fl) (F : Nat → Prop) (h : MdAt w m room S F) (x : ByteArray) (_hl : S.length ≤ 1000000) :
    Calls Tryd.prog 34 #[.pointer (some ⟨m, 0, none⟩), .string x] w fun e w' => e = .returned (.tuple #[.int .i64 (aheadF S x), .bool (isF S x)]) ∧ Below w.heap.size w w' := by
  obtain ⟨v, h⟩ := h
  obtain ⟨A, c, rfl, hc1, hc2⟩ := h.row.shape_ (n := S.length) rfl
  unfold maxLen at hc2
  have c0 := h.c0
  have HS := Lib.hid (h.row.sl elFl.len)
  clear h
  go_enter Tryd.func34, Tryd.ntmps34
  go_wp2_with fail
  go_loop [6] (fun i => ∃ k : Nat, k ≤ S.length ∧ i = .int .i64 k ∧ ∀ j f, j < k → S[j]? = some f → bLt f.name x) (fun i => S.length - (RowKit.intOf i).toNat)
  case atStart => exact ⟨0, Nat.zero_le _, rfl, fun j f hj => by omega⟩
  case round =>
    obtain ⟨k, hk, rfl, hlo⟩ := hrel
    have HLO := Lib.hid hlo
    clear hlo
    by_cases hlt : k < S.length
    · obtain ⟨b, o, rfl, _, _, hxx⟩ := HS.out.cell_ hlt
      have x0 := hxx 0 _ rfl
      simp only [Nat.add_zero] at x0
      clear hxx
      have hk0 : (0 : Int) ≤ (k : Int) := by omega
      have hk1 : (k : Int) < (S.length : Int) := by omega
      cases hb : Op.bytesLess S[k].name.toList x.toList
      · have HA : Hid (aheadF S x = k) := Lib.hid (aheadF_eq hk HLO.out (fun f hf => by
          rw [List.getElem?_eq_getElem hlt] at hf
          injection hf with hf
          subst hf
          intro hc
          have hc : Op.bytesLess S[k].name.toList x.toList = true := hc
          rw [hb] at hc; cases hc))
        have HI : Hid (isF S x = decide (S[k].name = x)) := Lib.hid (by unfold isF; rw [HA.out, List.getElem?_eq_getElem hlt])
        by_cases he : S[k].name = x
        · have de := strEq_true he
          have HI2 : Hid (isF S x = true) := Lib.hid (by rw [HI.out, decide_eq_true he])
          clear he HLO
          go_upto_region 4 with (fail)
          go_quiet (fail)
          go_wp2_with fail
          go_ret2
          exact ⟨by simp only [HA.out, HI2.out]; rfl, ⟨rfl, rfl, rfl, Nat.le_refl _, fun _ _ => rfl⟩⟩
        · have de := strEq_false he
          have HI2 : Hid (isF S x = false) := Lib.hid (by rw [HI.out, decide_eq_false he])
          clear he HLO
          go_upto_region 4 with (fail)
          go_quiet (fail)
          go_wp2_with fail
          go_ret2
          exact ⟨by simp only [HA.out, HI2.out]; rfl, ⟨rfl, rfl, rfl, Nat.le_refl _, fun _ _ => rfl⟩⟩
      · have HB : Hid (bLt S[k].name x) := Lib.hid hb
        go_wp2_with fail
        go_round
        case rel => exact ⟨k + 1, by omega, by go_num, fun j f hj hf => by
          by_cases e : j = k
          · subst e
            rw [List.getElem?_eq_getElem hlt] at hf
            injection hf with hf
            subst hf
            exact HB.out
          · exact HLO.out j f (by omega) hf⟩
        case measure => simp [RowKit.intOf]; omega
    · have hkd : k = S.length := by omega
      subst hkd
      have HA : Hid (aheadF S x = S.length) := Lib.hid (aheadF_eq (Nat.le_refl _) HLO.out (fun f hf => by simp at hf))
      have HI : Hid (isF S x = false) := Lib.hid (by unfold isF; rw [HA.out, List.getElem?_eq_none (Nat.le_refl _)])
      have dlt : decide ((S.length : Int) < (S.length : Int)) = false := decide_eq_false (by omega)
      clear HLO hlt
      go_upto_region 4 with (fail)
      go_quiet (fail)
      go_wp2_with fail
      go_ret2
      exact ⟨by simp only [HA.out, HI.out]; rfl, ⟨rfl, rfl, rfl, Nat.le_refl _, fun _ _ => rfl⟩⟩

set_option maxHeartbeats 1000000 in
theorem mused_any (w : World) (m : Nat) (room : Int) (S : List Fl) (F : Nat → Prop) (h : MdAt w m room S F) (_hl : S.length ≤ 1000000) (ht : total S ≤ 1000000000000) :
    Calls Tryd.prog 36 #[.pointer (some ⟨m, 0, none⟩)] w fun e w' => e = .returned (.int .i64 (total S)) ∧ w = w' := by
  obtain ⟨v, h⟩ := h
  obtain ⟨A, c, rfl, hc1, hc2⟩ := h.row.shape_ (n := S.length) rfl
  unfold maxLen at hc2
  have c0 := h.c0
  have HS := Lib.hid (h.row.sl elFl.len)
  clear h
  go_enter Tryd.func36, Tryd.ntmps36
  go_wp2_with fail
  go_loop [3, 4] (fun n i => ∃ k : Nat, k ≤ S.length ∧ i = .int .i64 k ∧ n = .int .i64 (total (S.take k))) (fun _ i => S.length - (RowKit.intOf i).toNat)
  case atStart => exact ⟨0, Nat.zero_le _, rfl, rfl⟩
  case round =>
    obtain ⟨k, hk, rfl, rfl⟩ := hrel
    by_cases hlt : k < S.length
    · obtain ⟨b, o, rfl, _, _, hxx⟩ := HS.out.cell_ hlt
      have x1 := hxx 1 _ rfl
      clear hxx
      have ht1 : total (S.take (k + 1)) = total (S.take k) + S[k].bytes.size := by
        rw [List.take_succ_eq_append_getElem hlt]
        simp only [total, List.map_append, List.sum_append, List.map_cons, List.map_nil, List.sum_cons, List.sum_nil]
        omega
      have hle : total (S.take (k + 1)) ≤ total S := by
        conv => rhs; rw [← List.take_append_drop (k + 1) S]
        simp only [total, List.map_append, List.sum_append]
        omega
      have HT := Lib.hid ht1
      obtain ⟨T, hT⟩ : ∃ T, total (S.take k) = T := ⟨_, rfl⟩
      rw [ht1, hT] at hle
      rw [hT] at HT ⊢
      clear ht1 hT
      have hTb : T ≤ 1000000000000 := by omega
      have hsb : S[k].bytes.size ≤ 1000000000000 := by omega
      clear hle
      go_wp2_with fail
      go_round
      case rel => exact ⟨k + 1, by omega, by go_num, by rw [HT.out]; go_num⟩
      case measure => simp [RowKit.intOf]; omega
    · have hkd : k = S.length := by omega
      subst hkd
      go_wp2_with fail
      go_ret
      exact ⟨by first | rfl | (rw [List.take_length]; rfl), rfl⟩

set_option maxHeartbeats 1000000 in
theorem mread_any (w : World) (m : Nat) (room : Int) (S : List Fl) (F : Nat → Prop) (h : MdAt w m room S F) (hl : S.length ≤ 1000000) (x : ByteArray) :
    Calls Tryd.prog 21 #[.pointer (some ⟨m, 0, none⟩), .string x] w fun e w' => e = .returned (readV (fdS S x)) ∧ Below w.heap.size w w' := by
  have hfind := find_any w m room S F h x hl
  have H := Lib.hid h
  unfold fdS
  have hal := aheadF_le S x
  cases hx : isF S x
  · rw [hx] at hfind
    have HF := Lib.hid hfind
    rw [if_neg (by decide)]
    clear hfind hx
    go_enter Tryd.func21, Tryd.ntmps21
    go_wp2_with fail
    refine HF.out.mono ?_
    rintro e w1 ⟨rfl, hB⟩
    go_wp2_with fail
    go_ret2
    exact ⟨rfl, hB⟩
  · obtain ⟨hk, hn⟩ := isF_yes hx
    rw [hx] at hfind
    rw [if_pos rfl, List.getElem?_eq_getElem hk]
    generalize aheadF S x = k at hk hn hfind hal ⊢
    have HF := Lib.hid hfind
    clear hfind hx hn
    go_enter Tryd.func21, Tryd.ntmps21
    go_wp2_with fail
    refine HF.out.mono ?_
    rintro e w1 ⟨rfl, hB⟩
    obtain ⟨v, h1⟩ := H.out.fresh hB
    obtain ⟨A, c, rfl, hc1, hc2⟩ := h1.row.shape_ (n := S.length) rfl
    unfold maxLen at hc2
    have c0 := h1.c0
    obtain ⟨b, o, rfl, _, _, hxx⟩ := (h1.row.sl elFl.len).cell_ hk
    have x1 := hxx 1 _ rfl
    have HB := Lib.hid hB
    clear hxx h1 hB
    go_wp2_with fail
    go_ret2
    exact ⟨rfl, HB.out⟩
set_option maxHeartbeats 1000000 in
theorem msynced_any (w : World) (m : Nat) (room : Int) (S : List Fl) (F : Nat → Prop) (h : MdAt w m room S F) (hl : S.length ≤ 1000000) (x : ByteArray) :
    Calls Tryd.prog 37 #[.pointer (some ⟨m, 0, none⟩), .string x] w fun e w' => e = .returned (.int .i64 (match fdS S x with | none => 0 | some f => f.syn)) ∧ Below w.heap.size w w' := by
  have hfind := find_any w m room S F h x hl
  have H := Lib.hid h
  unfold fdS
  have hal := aheadF_le S x
  cases hx : isF S x
  · rw [hx] at hfind
    have HF := Lib.hid hfind
    rw [if_neg (by decide)]
    clear hfind hx
    go_enter Tryd.func37, Tryd.ntmps37
    go_wp2_with fail
    refine HF.out.mono ?_
    rintro e w1 ⟨rfl, hB⟩
    go_wp2_with fail
    go_ret
    exact ⟨rfl, hB⟩
  · obtain ⟨hk, hn⟩ := isF_yes hx
    rw [hx] at hfind
    rw [if_pos rfl, List.getElem?_eq_getElem hk]
    generalize aheadF S x = k at hk hn hfind hal ⊢
    have HF := Lib.hid hfind
    clear hfind hx hn
    go_enter Tryd.func37, Tryd.ntmps37
    go_wp2_with fail
    refine HF.out.mono ?_
    rintro e w1 ⟨rfl, hB⟩
    obtain ⟨v, h1⟩ := H.out.fresh hB
    obtain ⟨A, c, rfl, hc1, hc2⟩ := h1.row.shape_ (n := S.length) rfl
    unfold maxLen at hc2
    have c0 := h1.c0
    obtain ⟨b, o, rfl, _, _, hxx⟩ := (h1.row.sl elFl.len).cell_ hk
    have x2 := hxx 2 _ rfl
    have HB := Lib.hid hB
    clear hxx h1 hB
    go_wp2_with fail
    go_ret
    exact ⟨rfl, HB.out⟩
set_option maxHeartbeats 1000000 in
theorem mlist_any (w : World) (m : Nat) (room : Int) (S : List Fl) (F : Nat → Prop) (h : MdAt w m room S F) (hl : S.length ≤ 1000000) :
    Calls Tryd.prog 35 #[.pointer (some ⟨m, 0, none⟩)] w fun e w' => ∃ v, e = .returned v ∧ Own w' w.heap.size 9 1 strc v (S.map Fl.name) ∧ Below w.heap.size w w' := by
  obtain ⟨v, h⟩ := h
  obtain ⟨A, c, rfl, hc1, hc2⟩ := h.row.shape_ (n := S.length) rfl
  unfold maxLen at hc2
  have hm := h.lt m h.fm
  have H := Lib.hid h
  clear h
  have c0 := H.out.c0
  go_enter Tryd.func35, Tryd.ntmps35
  go_wp2_with fail
  go_loopw [3, 4] (fun u i wr => ∃ k : Nat, k ≤ S.length ∧ i = .int .i64 k ∧ Own wr w.heap.size 9 1 strc u ((S.take k).map Fl.name) ∧ Below w.heap.size w wr) (fun _ i _ => S.length - (RowKit.intOf i).toNat)
  case atStart => exact ⟨0, Nat.zero_le _, rfl, Own.nil_ _ _ _ _ _, Below.refl _ _⟩
  case round =>
    obtain ⟨k, hk, rfl, hO, hB⟩ := hrel
    obtain ⟨Au, cu, rfl, _, _⟩ := hO.shape_ (n := k) (by simp; omega)
    have HO := Lib.hid hO
    have HB := Lib.hid hB
    have H1 := Lib.hid (H.out.fresh hB)
    have c0 := H1.out.c0
    clear hO hB
    by_cases hlt : k < S.length
    · obtain ⟨b, o, rfl, _, _, hxx⟩ := (H1.out.row.sl elFl.len).cell_ hlt
      have x0 := hxx 0 _ rfl
      simp only [Nat.add_zero] at x0
      have HONE := Lib.hid (Sl.single (k := 1) (enc := strc) (x := S[k].name) (heap_alloc_new wr (.cells #[.string S[k].name] 9)) rfl)
      have hB2 : Below wr.heap.size wr (wr.alloc (.cells #[.string S[k].name] 9)) := (Below.refl _ wr).alloc (Nat.le_refl _) _
      have HOW := Lib.hid (HO.out.fresh hB2)
      have HBW := Lib.hid (HB.out.trans (hB2.mono HB.out.size))
      clear hxx hB2
      go_wp2_with (at_builtin; refine elStrD.append _ (by rfl) _ _ rfl w.heap.size _ _ rfl HOW.out _ _ _ rfl HONE.out (by simp; omega) HBW.out.size ?_; intro v' w' hO' hgr hAt)
      go_roundw
      case rel => exact ⟨k + 1, hlt, by go_num, by rw [List.take_succ_eq_append_getElem hlt, List.map_append]; exact hO', Below.keep HBW.out (Keeps.of_grown hgr) HBW.out.size (fun q hq => (HOW.out.lt q hq).1)⟩
      case measure => simp [RowKit.intOf]; omega
    · have hkd : k = S.length := by omega
      subst hkd
      go_wp2_with fail
      go_ret
      have := HO.out
      rw [List.take_length] at this
      exact ⟨_, rfl, this, HB.out⟩
end Go.Proofs.YtiphnobefigibaaDoor
