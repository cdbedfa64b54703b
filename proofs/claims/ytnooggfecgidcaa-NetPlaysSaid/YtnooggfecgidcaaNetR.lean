/- The document's net (a row of packets): New, find, Send, Copy, Take. -/
import Derived.Test.YtnooggfecgidcaaNetG
import Derived.Deep.CutRange
import Derived.Test.YtnooggfecgidcaaBlR
namespace Go.Proofs.Ytnooggfecgidcaa
open Go.RowKit Go.Bl
attribute [local go_sem ↓] Go.wp_at_zero Go.wp_at_succ

theorem infoRPk : (Try.prog.info? 54).map (fun i => (i.zero, i.size, i.bytes)) = some (some (.agg #[.int .i64 0, .int .i64 0, .int .i64 0, .string ByteArray.empty]), 4, 40) := by kernel_rfl
theorem elRPk : El Try.prog 51 54 4 40 pkc := ⟨Try.underlying51, ⟨_, infoRPk, rfl⟩, by decide, by decide, fun _ => rfl, pkc_one⟩
theorem sizeRPk (w : World) : (sizeOf 54).run Try.prog w = .ok 4 w := by kernel_rfl

/-- Block p of w is the document's net. -/
structure RNetIn (w : World) (p : Nat) (s : Nt) (F : Nat → Prop) (v : Value) : Prop where
  blk : w.heap[p]? = some (.cells #[v, .int .i64 s.room, .int .i64 s.last, .int .i64 s.lost] 53 (0, 0))
  row : Own w 0 54 4 pkc v s.L
  fp : F p
  fv : ∀ b, v.ownBlock = some b → F b
  lt : ∀ k, F k → k < w.heap.size
  ok : s.Ok
def RNetAt (w : World) (p : Nat) (s : Nt) (F : Nat → Prop) : Prop := ∃ v, RNetIn w p s F v
section
variable {w w' : World} {p : Nat} {s : Nt} {F G : Nat → Prop} {v : Value}
theorem RNetIn.keep (h : RNetIn w p s F v) (hk : Keeps G w w') (hd : ∀ k, F k → ¬ G k) : RNetIn w' p s F v :=
  ⟨hk.grownTo h.blk (hd _ h.fp), h.row.keep hk (fun b hb => hd b (h.fv b hb)), h.fp, h.fv, fun k hF => Nat.lt_of_lt_of_le (h.lt k hF) hk.size, h.ok⟩
theorem RNetAt.keep (h : RNetAt w p s F) (hk : Keeps G w w') (hd : ∀ k, F k → ¬ G k) : RNetAt w' p s F := by
  obtain ⟨v, h⟩ := h
  exact ⟨v, h.keep hk hd⟩
theorem RNetIn.c0 (h : RNetIn w p s F v) : w.cell? ⟨p, 0, none⟩ = some v := cell_of_row w p 0 _ _ _ h.blk
theorem RNetIn.c1 (h : RNetIn w p s F v) : w.cell? ⟨p, 1, none⟩ = some (.int .i64 s.room) := cell_of_row w p 1 _ _ _ h.blk
theorem RNetIn.c2 (h : RNetIn w p s F v) : w.cell? ⟨p, 2, none⟩ = some (.int .i64 s.last) := cell_of_row w p 2 _ _ _ h.blk
theorem RNetIn.c3 (h : RNetIn w p s F v) : w.cell? ⟨p, 3, none⟩ = some (.int .i64 s.lost) := cell_of_row w p 3 _ _ _ h.blk
theorem RNetIn.vp (h : RNetIn w p s F v) (e : v.ownBlock = some p) : False := by
  obtain ⟨_, h2⟩ := h.row
  rcases h2 with ⟨h2, _⟩ | ⟨g, cap, cur, h2, _, h3, _⟩
  · rw [h2] at e; simp [Value.ownBlock] at e
  · rw [h2] at e
    simp [Value.ownBlock] at e
    subst e
    rw [h.blk] at h3
    simp at h3
end

set_option maxHeartbeats 400000 in
theorem rnew_ok (w : World) (room : Int) (h1 : 1 ≤ room) (h2 : room ≤ 1048576) : Calls Try.prog 18 #[.int .i64 room] w fun e w' => e = .returned (.tuple #[.pointer (some ⟨w.heap.size, 0, none⟩), .int .i64 0]) ∧
    RNetAt w' w.heap.size ⟨room, 0, 0, []⟩ (fun k => k = w.heap.size) ∧ Below w.heap.size w w' := by
  have d1 : decide (room < 1) = false := by simp; omega
  have d2 : decide ((1048576 : Int) < room) = false := by simp; omega
  go_enter Try.func18, Try.ntmps18
  go_wp2
  go_ret2
  refine ⟨rfl, ⟨.slice none 0 0, ?_⟩, (Below.refl _ _).alloc (Nat.le_refl _) _⟩
  exact ⟨heap_alloc_new w _, Own.nil_ _ _ _ _ _, rfl, by simp [Value.ownBlock], fun k hk => by subst hk; simp, ⟨h1, h2, Int.le_refl _, Int.le_refl _, by simp; omega, List.Pairwise.nil, by simp, by simp⟩⟩
theorem rnew_bad (w : World) (room : Int) (h : room < 1 ∨ 1048576 < room) : Calls Try.prog 18 #[.int .i64 room] w fun e w' => e = .returned (.tuple #[.pointer none, .int .i64 1]) ∧ w = w' := by
  by_cases h1 : room < 1
  · have d1 : decide (room < 1) = true := by simp; omega
    go_enter Try.func18, Try.ntmps18
    go_wp2
    go_ret2
    exact ⟨rfl, rfl⟩
  · have d1 : decide (room < 1) = false := by simp; omega
    have d2 : decide ((1048576 : Int) < room) = true := by simp; omega
    clear h
    go_enter Try.func18, Try.ntmps18
    go_wp2
    go_ret2
    exact ⟨rfl, rfl⟩

/-- The place of a number, if it is there. -/
def findAt (L : List Pk) (x : Int) (r : Int) : Prop := (∃ k : Nat, ∃ h : k < L.length, L[k].no = x ∧ r = k) ∨ ((∀ q ∈ L, q.no ≠ x) ∧ r = -1)

set_option maxHeartbeats 400000 in
theorem rfind_any (w : World) (p : Nat) (s : Nt) (F : Nat → Prop) (h : RNetAt w p s F) (x : Int) :
    Calls Try.prog 26 #[.pointer (some ⟨p, 0, none⟩), .int .i64 x] w fun e w' => ∃ r, e = .returned (.int .i64 r) ∧ findAt s.L x r ∧ w = w' := by
  obtain ⟨v, h⟩ := h
  have c0 := h.c0
  have hln : s.L.length ≤ 1048576 := by have := h.ok.len; have := h.ok.room2; omega
  obtain ⟨A, c, rfl, hc1, hc2⟩ := h.row.shape_ rfl
  have HS := Lib.hid (h.row.sl elRPk.len)
  unfold maxLen at hc2
  clear h
  go_enter Try.func26, Try.ntmps26
  go_wp2_with fail
  go_loop [5] (fun i => ∃ k : Nat, k ≤ s.L.length ∧ i = .int .i64 k ∧ ∀ j (h : j < s.L.length), j < k → s.L[j].no ≠ x) (fun i => s.L.length - (Go.RowKit.intOf i).toNat)
  case atStart => exact ⟨0, Nat.zero_le _, rfl, fun j h hj => by omega⟩
  case round =>
    obtain ⟨k, hk, rfl, hno⟩ := hrel
    have HNO := Lib.hid hno
    clear hno
    by_cases hlt : k < s.L.length
    · obtain ⟨b, o, rfl, _, _, hxx⟩ := HS.out.cell_ hlt
      have x0 := hxx 0 _ rfl
      rw [Nat.add_zero] at x0
      clear hxx
      by_cases he : s.L[k].no = x
      · have d1 : (s.L[k].no == x) = true := by rw [beq_iff_eq]; exact he
        have HE := Lib.hid he
        clear he
        go_wp2_with fail
        go_ret
        exact ⟨_, rfl, .inl ⟨k, hlt, HE.out, rfl⟩, rfl⟩
      · have d1 : (s.L[k].no == x) = false := by rw [beq_eq_false_iff_ne]; exact he
        have HE := Lib.hid he
        clear he
        go_wp2_with fail
        go_round
        case rel =>
          refine ⟨k + 1, by omega, by go_num, fun j h hj => ?_⟩
          by_cases e : j = k
          · subst e; exact HE.out
          · exact HNO.out j h (by omega)
        case measure => simp [Go.RowKit.intOf]; omega
    · have hkd : k = s.L.length := by omega
      subst hkd
      go_wp2_with fail
      go_ret
      refine ⟨_, rfl, .inr ⟨fun q hq => ?_, rfl⟩, rfl⟩
      obtain ⟨j, hj, rfl⟩ := List.getElem_of_mem hq
      exact HNO.out j hj hj

set_option maxHeartbeats 1000000 in
theorem rsend_any (w : World) (p : Nat) (s : Nt) (F : Nat → Prop) (h : RNetAt w p s F) (f t : Int) (x : ByteArray) (hx : x.size ≤ maxLen) (hb1 : s.last ≤ 1000000000000) (hb2 : s.lost ≤ 1000000000000) (hok' : (s.send f t x).1.Ok) :
    Calls Try.prog 19 #[.pointer (some ⟨p, 0, none⟩), .int .i64 f, .int .i64 t, .string x] w fun e w' => e = .returned (.tuple #[.int .i64 (s.send f t x).2.1, .int .i64 (s.send f t x).2.2]) ∧ Keeps (fun k => k = p) w w' ∧
      RNetAt w' p (s.send f t x).1 (fun k => F k ∨ (w.heap.size ≤ k ∧ k < w'.heap.size)) := by
  obtain ⟨v, h⟩ := h
  have c0 := h.c0
  have c1 := h.c1
  have c2 := h.c2
  have c3 := h.c3
  have hp := h.lt p h.fp
  have hln : s.L.length ≤ 1048576 := by have := h.ok.len; have := h.ok.room2; omega
  obtain ⟨r1, r2, l0, o0, ln, rise, nos, txts⟩ := h.ok
  have hf2 : w.frozen? ⟨p, 2, none⟩ = false := frozen_block h.blk 2
  have hf3 : w.frozen? ⟨p, 3, none⟩ = false := frozen_block h.blk 3
  obtain ⟨A, c, rfl, hc1, hc2⟩ := h.row.shape_ rfl
  unfold maxLen at hx hc2
  have H := Lib.hid h
  have HOK := Lib.hid hok'
  clear h rise nos txts hok'
  by_cases hsz : 8100 < x.size
  · have d0 : decide ((8100 : Int) < (x.size : Int)) = true := by simp; omega
    have hs : s.send f t x = (s, 0, 4) := by unfold Nt.send; rw [if_pos hsz]
    rw [hs]
    clear hs
    go_enter Try.func19, Try.ntmps19
    go_wp2_with fail
    go_ret2
    have h := H.out
    exact ⟨rfl, Keeps.refl _ _, _, h.blk, h.row, .inl h.fp, fun b hb => .inl (h.fv b hb), fun k hk => by rcases hk with hk | hk; exact h.lt k hk; exact hk.2, h.ok⟩
  · have d0 : decide ((8100 : Int) < (x.size : Int)) = false := by simp; omega
    by_cases hfull : s.room ≤ (s.L.length : Int)
    · have d1 : decide (s.room ≤ (s.L.length : Int)) = true := by simpa using hfull
      have hs : s.send f t x = ({ s with lost := s.lost + 1 }, 0, 8) := by unfold Nt.send; rw [if_neg hsz, if_pos hfull]
      rw [hs] at HOK ⊢
      clear hs
      go_enter Try.func19, Try.ntmps19
      go_wp2_with fail
      go_quiet (fail)
      go_wp2_with fail
      go_ret2
      have h := H.out
      have hkk : Keeps (fun q => q = p) w ((w.drewN nq).setCell ⟨p, 3, none⟩ (.int .i64 (s.lost + 1))) := ((Keeps.refl (fun q => q = p) w).drewN nq).setCell (p := ⟨p, 3, none⟩) (fun _ => rfl) _
      have hblk := setCell_block' (o := 3) (show (w.drewN nq).heap[p]? = _ from h.blk) (.int .i64 (s.lost + 1))
      refine ⟨rfl, hkk, _, hblk, h.row.keep hkk (fun b hb e => h.vp (e ▸ hb)), .inl h.fp, fun b hb => .inl (h.fv b hb), ?_, HOK.out⟩
      intro k hk
      rw [size_setCell] at hk ⊢
      rcases hk with hk | hk
      · exact h.lt k hk
      · exact hk.2
    · have d1 : decide (s.room ≤ (s.L.length : Int)) = false := by simpa using hfull
      have hs : s.send f t x = ({ s with last := s.last + 1, L := s.L ++ [⟨s.last + 1, f, t, x⟩] }, s.last + 1, 0) := by unfold Nt.send; rw [if_neg hsz, if_neg hfull]
      rw [hs] at HOK ⊢
      clear hs
      go_enter Try.func19, Try.ntmps19
      go_wp2_with fail
      go_quiet (fail)
      go_upto_region 7 with (fail)
      have hkk : Keeps (fun q => q = p) w ((w.drewN nq).setCell ⟨p, 2, none⟩ (.int .i64 (s.last + 1))) := ((Keeps.refl (fun q => q = p) w).drewN nq).setCell (p := ⟨p, 2, none⟩) (fun _ => rfl) _
      have hblk := setCell_block' (o := 2) (show (w.drewN nq).heap[p]? = _ from H.out.blk) (.int .i64 (s.last + 1))
      have hz1 : ((w.drewN nq).setCell ⟨p, 2, none⟩ (.int .i64 (s.last + 1))).heap.size = w.heap.size := size_setCell _ _ _
      generalize (w.drewN nq).setCell ⟨p, 2, none⟩ (.int .i64 (s.last + 1)) = W1 at hkk hblk hz1 ⊢
      have e0 : W1.cell? ⟨p, 0, none⟩ = some (.slice A s.L.length c) := cell_of_row W1 p 0 _ _ _ hblk
      have e2 : W1.cell? ⟨p, 2, none⟩ = some (.int .i64 (s.last + 1)) := cell_of_row W1 p 2 _ _ _ hblk
      have HSl := Lib.hid ((H.out.row.keep hkk (fun b hb e => H.out.vp (e ▸ hb))).sl elRPk.len)
      have hpl : p < W1.heap.size := by rw [hz1]; exact hp
      have HB := Lib.hid hblk
      have HK := Lib.hid hkk
      have HZ := Lib.hid hz1
      clear hblk hkk hz1 c0 c1 c2 c3 hf2 hf3
      go_wp2_with (first
        | (have hx1 := hown1
           at_builtin
           refine elRPk.append _ (by rfl) (.tmp 44) (.tmp 53) (by rfl) W1.heap.size _ _ (by rfl) (hx1.fresh ((Below.refl _ _).alloc (Nat.le_refl _) _)) _ _ [⟨s.last + 1, f, t, x⟩] (by rfl) (Sl.single (k := 4) (heap_alloc_new _ _) rfl) ?_ ?_ ?_
           · simp; omega
           · have := hba.size; simp; omega
           intro v2 w2 hown2 hg2 hat2
           have hbc : Below W1.heap.size W1 w2 := (hba.alloc hba.size _).grown hg2 (by have := hba.size; simp; omega) (fun q hq => (hx1.lt q hq).1)
           have hblk2 := (hbc.block p hpl).trans HB.out
           have g0 : w2.cell? ⟨p, 0, none⟩ = some (.slice A s.L.length c) := cell_of_row w2 p 0 _ _ _ hblk2
           have g2 : w2.cell? ⟨p, 2, none⟩ = some (.int .i64 (s.last + 1)) := cell_of_row w2 p 2 _ _ _ hblk2
           have fr0 : w2.frozen? ⟨p, 0, none⟩ = false := frozen_block hblk2 0
           obtain ⟨a5, c5, rfl, hc51, hc52⟩ := hown2.shape_ (n := s.L.length + 1) (by simp)
           have HBC := Lib.hid hbc
           have HOW := Lib.hid hown2
           clear hbc hblk2 hown2 hown1 hx1)
        | (at_builtin
           refine elRPk.append _ (by rfl) (.tmp 38) (.tmp 42) (by rfl) W1.heap.size _ [] (by rfl) (Own.made _ (Nat.le_refl _) _ _ _) _ _ s.L (by rfl) (HSl.out.fresh ((Below.refl _ _).alloc (Nat.le_refl _) _)) ?_ ?_ ?_
           · simp; omega
           · simp
           intro v1 w1 hown1 hg1 hat1
           have hba : Below W1.heap.size W1 w1 := ((Below.refl _ W1).alloc (Nat.le_refl _) _).grown hg1 (by simp) (fun q hq => by simp [Value.ownBlock] at hq; omega)
           have d2 := (hba.cell (p := ⟨p, 2, none⟩) hpl).trans e2))
      go_ret2
      have h := H.out
      have hown := HOW.out
      rw [List.nil_append] at hown
      have hblk2 := (HBC.out.block p hpl).trans HB.out
      have hblk3 := setCell_block' (o := 0) hblk2 (.slice a5 (s.L.length + 1) c5)
      have hkk : Keeps (fun k => k = p) w (w2.setCell ⟨p, 0, none⟩ (.slice a5 (s.L.length + 1) c5)) := (HK.out.trans (Keeps.of_fresh HBC.out _)).setCell (p := ⟨p, 0, none⟩) (fun _ => rfl) _
      refine ⟨rfl, hkk, _, hblk3, (hown.keep (Keeps.one w2 p 0 _) (fun b hb e => ?_)).lower (Nat.zero_le _), .inl h.fp, fun b hb => ?_, ?_, HOK.out⟩
      · have := (hown.lt b hb).1; omega
      · have := hown.lt b hb
        refine .inr ⟨by rw [← HZ.out]; exact this.1, by rw [size_setCell]; exact this.2⟩
      · intro k hk
        rw [size_setCell] at hk ⊢
        rcases hk with hk | hk
        · have := h.lt k hk; have := HBC.out.size; have := HZ.out; omega
        · exact hk.2

set_option maxHeartbeats 400000 in
theorem rcopy_no (w : World) (p : Nat) (s : Nt) (F : Nat → Prop) (h : RNetAt w p s F) (x : Int) (hn : ∀ q ∈ s.L, q.no ≠ x) :
    Calls Try.prog 22 #[.pointer (some ⟨p, 0, none⟩), .int .i64 x] w fun e w' => e = .returned (.tuple #[.int .i64 0, .int .i64 6]) ∧ w = w' := by
  go_enter Try.func22, Try.ntmps22
  go_wp2_with fail
  refine (rfind_any w p s F h x).mono ?_
  rintro e w1 ⟨r, rfl, hr, rfl⟩
  obtain rfl : r = -1 := by
    rcases hr with ⟨k, hk, he, _⟩ | ⟨_, he⟩
    · exact absurd he (hn _ (List.getElem_mem hk))
    · exact he
  clear hr hn
  go_wp2_with fail
  go_ret2
  exact ⟨rfl, rfl⟩

set_option maxHeartbeats 1000000 in
theorem rcopy_yes (w : World) (p : Nat) (s : Nt) (F : Nat → Prop) (h : RNetAt w p s F) (x : Int) (kk : Nat) (hk : kk < s.L.length) (he : s.L[kk].no = x) (hb1 : s.last ≤ 1000000000000) (hb2 : s.lost ≤ 1000000000000) (hok' : (s.send s.L[kk].frm s.L[kk].to s.L[kk].txt).1.Ok) :
    Calls Try.prog 22 #[.pointer (some ⟨p, 0, none⟩), .int .i64 x] w fun e w' => e = .returned (.tuple #[.int .i64 (s.send s.L[kk].frm s.L[kk].to s.L[kk].txt).2.1, .int .i64 (s.send s.L[kk].frm s.L[kk].to s.L[kk].txt).2.2]) ∧ Keeps (fun k => k = p) w w' ∧
      RNetAt w' p (s.send s.L[kk].frm s.L[kk].to s.L[kk].txt).1 (fun k => F k ∨ (w.heap.size ≤ k ∧ k < w'.heap.size)) := by
  have hrise := h.elim fun _ h => h.ok.rise
  have htx := h.elim fun _ h => h.ok.txt
  have hln : s.L.length ≤ 1048576 := by obtain ⟨_, h⟩ := h; have := h.ok.len; have := h.ok.room2; omega
  have HH := Lib.hid h
  go_enter Try.func22, Try.ntmps22
  go_wp2_with fail
  refine (rfind_any w p s F HH.out x).mono ?_
  rintro e w1 ⟨r, rfl, hr, rfl⟩
  obtain rfl : r = kk := by
    rcases hr with ⟨k, hk', he', hr⟩ | ⟨hn, _⟩
    · rw [hr]
      have : k = kk := by
        rcases Nat.lt_trichotomy k kk with hlt | hlt | hlt
        · have := List.pairwise_iff_getElem.1 hrise k kk hk' hk hlt; omega
        · exact hlt
        · have := List.pairwise_iff_getElem.1 hrise kk k hk hk' hlt; omega
      rw [this]
    · exact absurd he (hn _ (List.getElem_mem hk))
  clear hr he
  obtain ⟨v, h⟩ := h
  have c0 := h.c0
  obtain ⟨A, c, rfl, hc1, hc2⟩ := h.row.shape_ rfl
  have H0 := Lib.hid h
  obtain ⟨b, o, hA, hob, hbl, hxx⟩ := (h.row.sl elRPk.len).cell_ hk
  have x1 := hxx 1 _ rfl
  have x2 := hxx 2 _ rfl
  have x3 := hxx 3 _ rfl
  subst hA
  unfold maxLen at hc2
  have htk := htx _ (List.getElem_mem hk)
  have hkI : (kk : Int) < (s.L.length : Int) := by omega
  clear hxx hrise htx h
  go_upto_region 4 with (fail)
  refine region_mid 25 rfl (by kernel_rfl) (by kernel_rfl) ?_
  simp only [List.take_succ_cons, List.take_zero, List.drop_succ_cons, List.drop_zero]
  repeat still_step
  refine wpStill_nil ?_
  change wpList _ _ _ _ _ w.drew
  go_wp2_with fail
  refine (rsend_any _ p s F (HH.out.keep ((Keeps.refl (fun _ => False) _).drew) (fun _ _ => id)) s.L[kk].frm s.L[kk].to s.L[kk].txt (by unfold maxLen; omega) hb1 hb2 hok').mono ?_
  rintro e w2 ⟨rfl, hK, hN⟩
  have HK := Lib.hid hK
  have HN := Lib.hid hN
  clear hK hN
  go_wp2_with fail
  unfold Go.Bl.Rest
  repeat still_step
  refine wpStill_nil ?_
  go_wp2_with fail
  go_ret2
  exact ⟨rfl, ((Keeps.refl _ w).drew).trans HK.out, HN.out⟩

theorem cut_filter {S : List Pk} (hn : S.Pairwise (fun p q => p.no < q.no)) {k : Nat} (hk : k < S.length) {x : Int} (he : S[k].no = x) : S.take k ++ S.drop (k + 1) = S.filter fun q => q.no ≠ x := by
  have hs : S = S.take k ++ S[k] :: S.drop (k + 1) := by rw [← List.drop_eq_getElem_cons hk, List.take_append_drop]
  generalize S[k] = y at hs he
  generalize S.take k = a at hs ⊢
  generalize S.drop (k + 1) = b at hs ⊢
  subst hs he
  rw [List.pairwise_append] at hn
  obtain ⟨_, n2, n3⟩ := hn
  rw [List.pairwise_cons] at n2
  rw [List.filter_append, List.filter_cons_of_neg (by simp)]
  congr 1
  · rw [List.filter_eq_self.2]
    intro q hq
    have := n3 q hq y (by simp)
    simp; omega
  · rw [List.filter_eq_self.2]
    intro q hq
    have := n2.1 q hq
    simp; omega
theorem set_turn {S : List Pk} (hn : S.Pairwise (fun p q => p.no < q.no)) {k : Nat} (hk : k < S.length) {x : Int} (he : S[k].no = x) (t : ByteArray) : S.set k { S[k] with txt := t } = S.map fun q => if q.no = x then { q with txt := t } else q := by
  apply List.ext_getElem (by simp)
  intro j h1 h2
  rw [List.length_set] at h1
  rw [List.getElem_map, List.getElem_set]
  by_cases hj : k = j
  · subst hj
    rw [if_pos rfl, if_pos he]
  · rw [if_neg hj]
    have hne : S[j].no ≠ x := by
      rcases Nat.lt_trichotomy k j with h | h | h
      · have := List.pairwise_iff_getElem.1 hn k j hk h1 h; omega
      · exact absurd h hj
      · have := List.pairwise_iff_getElem.1 hn j k h1 hk h; omega
    rw [if_neg hne]

/-- The place that find tells. -/
theorem find_is {L : List Pk} (hn : L.Pairwise (fun p q => p.no < q.no)) {x r : Int} (hr : findAt L x r) {kk : Nat} (hk : kk < L.length) (he : L[kk].no = x) : r = kk := by
  rcases hr with ⟨k, hk', he', hr⟩ | ⟨hno, _⟩
  · rw [hr]
    have : k = kk := by
      rcases Nat.lt_trichotomy k kk with hlt | hlt | hlt
      · have := List.pairwise_iff_getElem.1 hn k kk hk' hk hlt; omega
      · exact hlt
      · have := List.pairwise_iff_getElem.1 hn kk k hk hk' hlt; omega
    rw [this]
  · exact absurd he (hno _ (List.getElem_mem hk))

set_option maxHeartbeats 400000 in
theorem rtake_no (w : World) (p : Nat) (s : Nt) (F : Nat → Prop) (h : RNetAt w p s F) (x : Int) (hn : ∀ q ∈ s.L, q.no ≠ x) :
    Calls Try.prog 20 #[.pointer (some ⟨p, 0, none⟩), .int .i64 x] w fun e w' => e = .returned (.tuple #[.agg #[.int .i64 0, .int .i64 0, .int .i64 0, .string ⟨#[]⟩], .bool false]) ∧ Below w.heap.size w w' := by
  have h1 := h.keep ((Keeps.refl (fun _ => False) w).alloc (.cells #[.int .i64 0, .int .i64 0, .int .i64 0, .string ⟨#[]⟩] 54)) (fun _ _ => id)
  go_enter Try.func20, Try.ntmps20
  go_wp2_with fail
  refine (rfind_any _ p s F h1 x).mono ?_
  rintro e w1 ⟨r, rfl, hr, rfl⟩
  obtain rfl : r = -1 := by
    rcases hr with ⟨k, hk, he, _⟩ | ⟨_, he⟩
    · exact absurd he (hn _ (List.getElem_mem hk))
    · exact he
  clear hr hn h h1
  go_wp2_with fail
  exact bodyPost_ret (v := .tuple #[.agg #[.int .i64 0, .int .i64 0, .int .i64 0, .string ⟨#[]⟩], .bool false]) (by simp [results, Try.results20, go_sem]) rfl ⟨rfl, (Below.refl _ w).alloc (Nat.le_refl _) _⟩

set_option maxHeartbeats 1000000 in
theorem rtake_yes (w : World) (p : Nat) (s : Nt) (F : Nat → Prop) (h : RNetAt w p s F) (x : Int) (kk : Nat) (hk : kk < s.L.length) (he : s.L[kk].no = x) :
    Calls Try.prog 20 #[.pointer (some ⟨p, 0, none⟩), .int .i64 x] w fun e w' => e = .returned (.tuple #[.agg #[.int .i64 s.L[kk].no, .int .i64 s.L[kk].frm, .int .i64 s.L[kk].to, .string s.L[kk].txt], .bool true]) ∧ Keeps (fun k => k = p) w w' ∧
      RNetAt w' p (s.del x) (fun k => F k ∨ (w.heap.size ≤ k ∧ k < w'.heap.size)) := by
  have h1 := h.keep ((Keeps.refl (fun _ => False) w).alloc (.cells #[.int .i64 0, .int .i64 0, .int .i64 0, .string ⟨#[]⟩] 54)) (fun _ _ => id)
  obtain ⟨v, h⟩ := h
  have hrise := h.ok.rise
  have hln : s.L.length ≤ 1048576 := by have := h.ok.len; have := h.ok.room2; omega
  have hp := h.lt p h.fp
  have H := Lib.hid h
  have H1 := Lib.hid h1
  have HR := Lib.hid hrise
  have HE := Lib.hid he
  go_enter Try.func20, Try.ntmps20
  go_wp2_with fail
  refine (rfind_any _ p s F H1.out x).mono ?_
  rintro e w1 ⟨r, rfl, hr, rfl⟩
  obtain rfl := find_is hrise hr hk he
  clear hr he h1 hrise
  obtain ⟨A, c, rfl, hc1, hc2⟩ := h.row.shape_ rfl
  have c0 := h.c0
  obtain ⟨b, o, hA, hob, hbl, hxx⟩ := (h.row.sl elRPk.len).cell_ hk
  have x0 := hxx 0 _ rfl
  have x1 := hxx 1 _ rfl
  have x2 := hxx 2 _ rfl
  have x3 := hxx 3 _ rfl
  rw [Nat.add_zero] at x0
  subst hA
  unfold maxLen at hc2
  have hkI : (kk : Int) < (s.L.length : Int) := by omega
  clear hxx h
  go_upto_region 5 with (fail)
  have hbW : Below w.heap.size w ((w.alloc (.cells #[.int .i64 0, .int .i64 0, .int .i64 0, .string ⟨#[]⟩] 54)).alloc (.cells #[.int .i64 s.L[kk].no, .int .i64 s.L[kk].frm, .int .i64 s.L[kk].to, .string s.L[kk].txt] 54)) := ((Below.refl _ w).alloc (Nat.le_refl _) _).alloc (by simp) _
  have hzW : ((w.alloc (.cells #[.int .i64 0, .int .i64 0, .int .i64 0, .string ⟨#[]⟩] 54)).alloc (.cells #[.int .i64 s.L[kk].no, .int .i64 s.L[kk].frm, .int .i64 s.L[kk].to, .string s.L[kk].txt] 54)).heap.size = w.heap.size + 2 := by simp
  have hl1 := heap_alloc_new (w.alloc (.cells #[.int .i64 0, .int .i64 0, .int .i64 0, .string ⟨#[]⟩] 54)) (.cells #[.int .i64 s.L[kk].no, .int .i64 s.L[kk].frm, .int .i64 s.L[kk].to, .string s.L[kk].txt] 54)
  have hl0 := (Below.heap_alloc (w.alloc (.cells #[.int .i64 0, .int .i64 0, .int .i64 0, .string ⟨#[]⟩] 54)) (.cells #[.int .i64 s.L[kk].no, .int .i64 s.L[kk].frm, .int .i64 s.L[kk].to, .string s.L[kk].txt] 54) w.heap.size (by simp)).trans (heap_alloc_new w _)
  rw [World.size_alloc] at hl1
  generalize (w.alloc (.cells #[.int .i64 0, .int .i64 0, .int .i64 0, .string ⟨#[]⟩] 54)).alloc (.cells #[.int .i64 s.L[kk].no, .int .i64 s.L[kk].frm, .int .i64 s.L[kk].to, .string s.L[kk].txt] 54) = W1 at hbW hzW hl1 hl0 ⊢
  have hblk := (hbW.block p hp).trans H.out.blk
  have e0 : W1.cell? ⟨p, 0, none⟩ = some (.slice (some ⟨b, o, none⟩) s.L.length c) := cell_of_row W1 p 0 _ _ _ hblk
  have HSl := Lib.hid ((H.out.row.fresh hbW).sl elRPk.len)
  have hpl : p < W1.heap.size := by omega
  have hkS1 : kk + 1 ≤ s.L.length := hk
  have hch : ∀ w : World, (Instr.slice 51 (.slice (some ⟨b, o, none⟩) s.L.length c) none (some (.int .i64 (kk : Int))) none).run Try.prog w = .ok (.slice (cutA (some ⟨b, o, none⟩) c 0 4) kk c) w := fun w => by
    simpa using run_cut_high (P := Try.prog) Try.underlying51 sizeRPk (some ⟨b, o, none⟩) s.L.length c (kk : Int) (by omega) (by omega) w
  have hcl : ∀ w : World, (Instr.slice 51 (.slice (some ⟨b, o, none⟩) s.L.length c) (some (.int .i64 ((kk : Int) + 1))) none none).run Try.prog w = .ok (.slice (cutA (some ⟨b, o, none⟩) c (kk + 1) 4) (s.L.length - (kk + 1)) (c - (kk + 1))) w := fun w => by
    have := run_cut_low (P := Try.prog) Try.underlying51 sizeRPk (some ⟨b, o, none⟩) s.L.length c ((kk : Int) + 1) (by omega) (by omega) w
    rwa [show ((kk : Int) + 1).toNat = kk + 1 by omega] at this
  have HB := Lib.hid hblk
  have HW := Lib.hid hbW
  have HZ := Lib.hid hzW
  have HL0 := Lib.hid hl0
  have HL1 := Lib.hid hl1
  clear hblk hbW hzW hl0 hl1 x0 x1 x2 x3 c0
  go_wp2_with (first
    | (have hx1 := hown1
       at_builtin
       refine elRPk.append _ (by rfl) (.tmp 30) (.tmp 37) (by rfl) W1.heap.size _ _ (by rfl) hx1 _ _ (s.L.drop (kk + 1)) (by rfl) ((HSl.out.drop_ hkS1).fresh hba) ?_ ?_ ?_
       · simp only [List.nil_append, List.length_take, List.length_drop]; omega
       · exact hba.size
       intro v2 w2 hown2 hg2 hat2
       have hbc : Below W1.heap.size W1 w2 := hba.grown hg2 hba.size (fun q hq => (hx1.lt q hq).1)
       have hz2 := hbc.size
       have hblk2 := (hbc.block p hpl).trans HB.out
       have g0 : w2.cell? ⟨p, 0, none⟩ = some (.slice (some ⟨b, o, none⟩) s.L.length c) := cell_of_row w2 p 0 _ _ _ hblk2
       have fr0 : w2.frozen? ⟨p, 0, none⟩ = false := frozen_block hblk2 0
       have hr2 := (hbc.block w.heap.size (by have := HZ.out; omega)).trans HL0.out
       have hq2 := (hbc.block (w.heap.size + 1) (by have := HZ.out; omega)).trans HL1.out
       have r0 : w2.cell? ⟨w.heap.size, 0, none⟩ = some (.int .i64 0) := cell_of_row w2 _ 0 _ _ _ hr2
       have r1 : w2.cell? ⟨w.heap.size, 1, none⟩ = some (.int .i64 0) := cell_of_row w2 _ 1 _ _ _ hr2
       have r2 : w2.cell? ⟨w.heap.size, 2, none⟩ = some (.int .i64 0) := cell_of_row w2 _ 2 _ _ _ hr2
       have r3 : w2.cell? ⟨w.heap.size, 3, none⟩ = some (.string ⟨#[]⟩) := cell_of_row w2 _ 3 _ _ _ hr2
       have fr : ∀ j, w2.frozen? ⟨w.heap.size, j, none⟩ = false := fun j => frozen_block hr2 j
       have q0 : w2.cell? ⟨w.heap.size + 1, 0, none⟩ = some (.int .i64 s.L[kk].no) := cell_of_row w2 _ 0 _ _ _ hq2
       have q1 : w2.cell? ⟨w.heap.size + 1, 1, none⟩ = some (.int .i64 s.L[kk].frm) := cell_of_row w2 _ 1 _ _ _ hq2
       have q2 : w2.cell? ⟨w.heap.size + 1, 2, none⟩ = some (.int .i64 s.L[kk].to) := cell_of_row w2 _ 2 _ _ _ hq2
       have q3 : w2.cell? ⟨w.heap.size + 1, 3, none⟩ = some (.string s.L[kk].txt) := cell_of_row w2 _ 3 _ _ _ hq2
       have hp1 : p ≠ w.heap.size := by omega
       have hp2 : p ≠ w.heap.size + 1 := by omega
       rw [List.nil_append] at hown2
       have hlen2 : (s.L.take kk ++ s.L.drop (kk + 1)).length = s.L.length - 1 := by simp; omega
       obtain ⟨a5, c5, rfl, hc51, hc52⟩ := hown2.shape_ hlen2
       have HBC := Lib.hid hbc
       have HOW := Lib.hid hown2
       have HB2 := Lib.hid hblk2
       clear hbc hblk2 hown2 hown1 hx1 hr2 hq2 hlen2)
    | (at_builtin
       refine elRPk.append _ (by rfl) (.tmp 22) (.tmp 28) (by rfl) W1.heap.size _ [] (by rfl) (Own.made _ (Nat.le_refl _) _ _ _) _ _ (s.L.take kk) (by rfl) ((HSl.out.take_ (Nat.le_of_lt hk)).fresh ((Below.refl _ _).alloc (Nat.le_refl _) _)) ?_ ?_ ?_
       · simp; omega
       · simp
       intro v1 w1 hown1 hg1 hat1
       have hba : Below W1.heap.size W1 w1 := ((Below.refl _ W1).alloc (Nat.le_refl _) _).grown hg1 (by simp) (fun q hq => by simp [Value.ownBlock] at hq; omega)
       have d0 := (hba.cell (p := ⟨p, 0, none⟩) hpl).trans e0))
  refine bodyPost_ret (v := .tuple #[.agg #[.int .i64 s.L[kk].no, .int .i64 s.L[kk].frm, .int .i64 s.L[kk].to, .string s.L[kk].txt], .bool true]) (by simp [results, Try.results20, go_sem, r0, r1, r2, r3]) rfl ⟨rfl, ?_⟩
  have hb3 := setCell_block' (o := 0) HB2.out (.slice a5 (s.L.length - 1) c5)
  have hk1 : Keeps (fun k => k = p) w2 (w2.setCell ⟨p, 0, none⟩ (.slice a5 (s.L.length - 1) c5)) := Keeps.one w2 p 0 _
  have hz1 : (w2.setCell ⟨p, 0, none⟩ (.slice a5 (s.L.length - 1) c5)).heap.size = w2.heap.size := size_setCell _ _ _
  generalize w2.setCell ⟨p, 0, none⟩ (.slice a5 (s.L.length - 1) c5) = w3 at hb3 hk1 hz1 ⊢
  have hk4 : Keeps (fun k => k = w.heap.size) w3 ((((w3.setCell ⟨w.heap.size, 0, none⟩ (.int .i64 s.L[kk].no)).setCell ⟨w.heap.size, 1, none⟩ (.int .i64 s.L[kk].frm)).setCell ⟨w.heap.size, 2, none⟩ (.int .i64 s.L[kk].to)).setCell ⟨w.heap.size, 3, none⟩ (.string s.L[kk].txt)) :=
    ((((Keeps.refl (fun k => k = w.heap.size) w3).setCell (p := ⟨w.heap.size, 0, none⟩) (fun _ => rfl) _).setCell (p := ⟨w.heap.size, 1, none⟩) (fun _ => rfl) _).setCell (p := ⟨w.heap.size, 2, none⟩) (fun _ => rfl) _).setCell (p := ⟨w.heap.size, 3, none⟩) (fun _ => rfl) _
  generalize (((w3.setCell ⟨w.heap.size, 0, none⟩ (.int .i64 s.L[kk].no)).setCell ⟨w.heap.size, 1, none⟩ (.int .i64 s.L[kk].frm)).setCell ⟨w.heap.size, 2, none⟩ (.int .i64 s.L[kk].to)).setCell ⟨w.heap.size, 3, none⟩ (.string s.L[kk].txt) = w4 at hk4
  have h := H.out
  have hown := HOW.out
  have hsz : w.heap.size + 2 ≤ w2.heap.size := by have := HBC.out.size; have := HZ.out; omega
  have hkA : Keeps (fun k => k = p) w w3 := ((Keeps.of_fresh HW.out (fun k => k = p)).trans (Keeps.of_fresh HBC.out _)).trans hk1
  have hkk : Keeps (fun k => k = p) w w4 := hkA.andThen hk4 (fun i hi e => by omega)
  have hcut := cut_filter HR.out hk HE.out
  rw [hcut] at hown
  refine ⟨hkk, _, hk4.grownTo hb3 hp1, ?_, .inl h.fp, fun b hb => .inr ?_, ?_, h.ok.del x⟩
  · refine ((hown.keep hk1 (fun b hb e => ?_)).keep hk4 (fun b hb e => ?_)).lower (Nat.zero_le _)
    · have := (hown.lt b hb).1; omega
    · have := (hown.lt b hb).1; have := HZ.out; omega
  · have h1 := hown.lt b hb
    have h2 := hk4.size
    have h3 := HZ.out
    omega
  · intro k hk
    have h2 := hk4.size
    rcases hk with hk | hk
    · have := h.lt k hk; omega
    · exact hk.2
end Go.Proofs.Ytnooggfecgidcaa
