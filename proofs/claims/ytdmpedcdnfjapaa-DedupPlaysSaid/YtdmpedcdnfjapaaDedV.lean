/- DedupPlays: what the statement's function does: it answers true. -/
import Derived.Test.YtdmpedcdnfjapaaDedU
namespace Go.Proofs.Ytdmpedcdnfjapaa
open Go.RowKit Go.Bl
attribute [local go_sem ↓] Go.wp_at_zero Go.wp_at_succ

def PlaysRel (w : World) (p m n : Nat) (i : Value) (wr : World) : Prop :=
  ∃ (k : Nat) (L : List En), k ≤ n ∧ L.length ≤ k ∧ i = .int .i64 k ∧ Pair (fun z => z < w.heap.size) wr p m L ∧ Below w.heap.size w wr

set_option maxRecDepth 4000 in
set_option maxHeartbeats 12000000 in
theorem plays_any (w : World) (G : Nat → Prop) (v : Value) (l : List Ac) (x y : Int) (h : Sl w G 6 acc v l) (hok : ∀ a ∈ l, AcOk a) (hx : i64 x) (hy : i64 y) :
    Calls Try.prog 7 #[v, .int .i64 x, .int .i64 y] w fun e w' => e = .returned (.bool true) ∧ Below w.heap.size w w' := by
  obtain ⟨A, c, rfl, hA1, hA2⟩ := h.shape
  unfold maxLen at hA2
  have HA := Lib.hid h
  have HO := Lib.hid hok
  clear h hok
  go_enter Try.func7, Try.ntmps7
  go_wp2_with fail
  refine (shown_any w).mono ?_
  rintro e w0 ⟨rfl, hB0⟩
  have HB0 := Lib.hid hB0
  clear hB0
  go_wp2_with fail
  refine (newT w0 (fun k => k < w.heap.size) (fun k hk => Nat.lt_of_lt_of_le hk HB0.out.size)).mono ?_
  rintro e w1 ⟨p, rfl, hN1, hB1⟩
  have HN1 := Lib.hid hN1
  have HB1 := Lib.hid (HB0.out.trans (hB1.mono HB0.out.size))
  clear hN1 hB1 HB0
  by_cases h80 : l.length ≤ 80
  · have d80 : decide ((80 : Int) < (l.length : Int)) = false := by simp; omega
    have hpair : Pair (fun z => z < w.heap.size) (w1.alloc (.cells #[.slice none 0 0] 44)) p w1.heap.size [] := by
      refine ⟨fun k => k = w1.heap.size, ⟨.slice none 0 0, heap_alloc_new w1 _, Own.nil_ _ _ _ _ _, rfl, by simp [Value.ownBlock], fun k hk => by rw [hk]; simp, ⟨by simp, by simp⟩⟩, fun k hk hx => ?_, ?_⟩
      · have := HB1.out.size; omega
      · exact (HN1.out.more (X' := fun k => k < w.heap.size ∨ k = w1.heap.size) (fun k hk => by rcases hk with e | e; exact .inl e; exact .inr (by omega))).fresh ((Below.refl _ _).alloc (Nat.le_refl _) _)
    have HP0 := Lib.hid hpair
    clear hpair
    go_wp2_with fail
    go_loopw [10] (fun i wr => PlaysRel w p w1.heap.size l.length i wr) (fun i _ => l.length - (Go.RowKit.intOf i).toNat)
    case atStart => exact ⟨0, [], Nat.zero_le _, Nat.le_refl _, rfl, HP0.out, HB1.out.alloc HB1.out.size _⟩
    case round =>
      obtain ⟨k, L, hk, hL, rfl, hP, hB⟩ := hrel
      have HP := Lib.hid hP
      have HB := Lib.hid hB
      clear hP hB
      obtain ⟨m, hm⟩ : ∃ m, w1.heap.size = m := ⟨_, rfl⟩
      rw [hm] at HP ⊢
      by_cases hlt : k < l.length
      · obtain ⟨b, o, rfl, hGb, hbl, hxx⟩ := HA.out.cell_ hlt
        have HX := Lib.hid hxx
        clear hxx
        obtain ⟨o1, o2⟩ := HO.out l[k] (List.getElem_mem hlt)
        have hcl : Calls Try.prog 15 #[.pointer (some ⟨p, 0, none⟩)] wr fun e w' => e = .returned (.pointer (some ⟨wr.heap.size + 1, 0, none⟩)) ∧ Below wr.heap.size wr w' ∧ ∃ F G, TabAt w' (wr.heap.size + 1) L F G ∧ ∀ k, G k → wr.heap.size ≤ k := by
          obtain ⟨F, _, _, F2, G2, h3, _⟩ := HP.out
          exact (clone_any wr p L F2 G2 h3 (by omega)).mono fun _ _ ⟨h1, h2, h4⟩ => ⟨h1, h2, _, _, h4, fun k hk => hk.1⟩
        have HCL := Lib.hid hcl
        clear hcl
        go_wp2_with fail
        refine HCL.out.mono ?_
        rintro e w2 ⟨rfl, hB2, F2, G2, hT2, hG2⟩
        have hput := put_any w2 (wr.heap.size + 1) L F2 G2 hT2 x y hx hy ⟨9, 0, 0, 0⟩ (by omega)
        have HPU := Lib.hid hput
        have HB2 := Lib.hid hB2
        have HG2 := Lib.hid hG2
        clear hput hB2 hT2 hG2
        go_wp2_with fail
        refine HPU.out.mono ?_
        rintro e w3 ⟨rfl, hK3, _⟩
        have hB3 : Below wr.heap.size wr w3 := HB2.out.trans (hK3.below HB2.out.size HG2.out)
        have HP3 := Lib.hid (HP.out.fresh hB3)
        have HB3 := Lib.hid (HB.out.trans (hB3.mono HB.out.size))
        clear hK3 hB3 HPU HB2 HG2 HCL
        have c0 := (HB3.out.cell (p := ⟨b, _, none⟩) hbl).trans (HX.out 0 _ rfl)
        have c1 := (HB3.out.cell (p := ⟨b, _, none⟩) hbl).trans (HX.out 1 _ rfl)
        have c2 := (HB3.out.cell (p := ⟨b, _, none⟩) hbl).trans (HX.out 2 _ rfl)
        have c3 := (HB3.out.cell (p := ⟨b, _, none⟩) hbl).trans (HX.out 3 _ rfl)
        have c4 := (HB3.out.cell (p := ⟨b, _, none⟩) hbl).trans (HX.out 4 _ rfl)
        have c5 := (HB3.out.cell (p := ⟨b, _, none⟩) hbl).trans (HX.out 5 _ rfl)
        simp only [Nat.add_zero] at c0
        obtain ⟨L', hL'⟩ : ∃ L', (putL L l[k].ses l[k].seq l[k].o).1 = L' := ⟨_, rfl⟩
        have hLl : L'.length ≤ k + 1 := by rw [← hL']; exact Nat.le_trans (putL_len _ _ _ _) (by omega)
        go_upto_if 90 with (fail)
        go_cut [90] (fun s90 wx => s90 = .bool false ∧ Pair (fun z => z < w.heap.size) wx p m L' ∧ Below w.heap.size w wx)
        case first =>
          obtain ⟨F3, hR3, hF3, hT3⟩ := HP3.out
          have h3X : ∀ z, z < w.heap.size → z < w3.drew.heap.size := fun z hz => Nat.lt_of_lt_of_le hz HB3.out.size
          have hput := putP w3.drew (fun z => z < w.heap.size) h3X p m L F3 (hR3.fresh ⟨rfl, rfl, rfl, Nat.le_refl _, fun _ _ => rfl⟩) (hT3.fresh ⟨rfl, rfl, rfl, Nat.le_refl _, fun _ _ => rfl⟩) l[k].ses l[k].seq o1 o2 l[k].o (by omega)
          obtain ⟨cc, hcc⟩ : ∃ cc, (putL L l[k].ses l[k].seq l[k].o).2 = cc := ⟨_, rfl⟩
          have hput2 := fun (wz : World) (L2 : List En) (hz : w.heap.size ≤ wz.heap.size) hR hT => putM wz (fun z => z < w.heap.size) (fun z hz' => Nat.lt_of_lt_of_le hz' hz) p m L L2 F3 hF3 hR hT l[k].ses l[k].seq o1 o2 l[k].o (by omega)
          rw [hcc] at hput hput2
          rw [hL'] at hput hput2
          have H1 := Lib.hid hput
          have H2 := Lib.hid hput2
          have HBx : ∀ (j : Nat) (u : Value) (wy wz : World), Keeps (fun z => ¬ z < w.heap.size) wy wz → w.heap.size ≤ wy.heap.size → wy.cell? ⟨b, j, none⟩ = some u → wz.cell? ⟨b, j, none⟩ = some u := fun j u wy wz hk hz hu => (hk.cell (a := ⟨b, j, none⟩) (Nat.lt_of_lt_of_le hbl hz) (fun h => h hbl)).trans hu
          have HC := Lib.hid HBx
          have hz3 : w.heap.size ≤ w3.drew.heap.size := HB3.out.size
          clear hput hput2 hR3 hF3 hT3 h3X hcc hL' HBx HX HO HA HP0 HN1 HB1 HP HB
          go_wp2_with fail
          go_region_held3 (fun x => x.cell? ⟨b, o + k * 6, none⟩ = some (.int .i64 l[k].ses) ∧ x.cell? ⟨b, o + k * 6 + 1, none⟩ = some (.int .i64 l[k].seq) ∧ x.cell? ⟨b, o + k * 6 + 2, none⟩ = some (.int .i64 l[k].o.code) ∧
              x.cell? ⟨b, o + k * 6 + 3, none⟩ = some (.int .i64 l[k].o.pos) ∧ x.cell? ⟨b, o + k * 6 + 4, none⟩ = some (.int .i64 l[k].o.first) ∧ x.cell? ⟨b, o + k * 6 + 5, none⟩ = some (.int .i64 l[k].o.ver))
            (first | exact ⟨by assumption, by assumption, by assumption, by assumption, by assumption, by assumption⟩ | go_keep)
            (first
              | (go_at_call 11
                 refine H1.out.mono ?_
                 rintro e w6 ⟨rfl, hR6, hT6, hK6⟩
                 have hz6 : w.heap.size ≤ w6.heap.size := Nat.le_trans hz3 hK6.size
                 have g0 := HC.out _ _ _ _ hK6 hz3 c0
                 have g1 := HC.out _ _ _ _ hK6 hz3 c1
                 have g2 := HC.out _ _ _ _ hK6 hz3 c2
                 have g3 := HC.out _ _ _ _ hK6 hz3 c3
                 have g4 := HC.out _ _ _ _ hK6 hz3 c4
                 have g5 := HC.out _ _ _ _ hK6 hz3 c5
                 have HR6 := Lib.hid hR6
                 have HT6 := Lib.hid hT6
                 have HK6 := Lib.hid hK6
                 clear hR6 hT6 hK6)
              | (go_at_call 16
                 refine (H2.out _ _ hz6 HR6.out HT6.out).mono ?_
                 rintro e w7 ⟨rfl, hP7, hK7⟩
                 have hz7 : w.heap.size ≤ w7.heap.size := Nat.le_trans hz6 hK7.size
                 have k0 := HC.out _ _ _ _ hK7 hz6 g0
                 have k1 := HC.out _ _ _ _ hK7 hz6 g1
                 have k2 := HC.out _ _ _ _ hK7 hz6 g2
                 have k3 := HC.out _ _ _ _ hK7 hz6 g3
                 have k4 := HC.out _ _ _ _ hK7 hz6 g4
                 have k5 := HC.out _ _ _ _ hK7 hz6 g5
                 have HP7 := Lib.hid (hP7 rfl)
                 have HK7 := Lib.hid hK7
                 clear hP7 hK7))
          all_goals go_wp2_with fail
          all_goals go_meet
          all_goals exact ⟨by simp, HP7.out, HB3.out.trans (below_not ((show Keeps (fun z => ¬ z < w.heap.size) w3 w6 from ⟨HK6.out.os, HK6.out.tape, HK6.out.output, HK6.out.size, HK6.out.block⟩).trans HK7.out) HB3.out.size (fun z hz => hz))⟩
        case rest =>
          obtain ⟨rfl, hP8, hB8⟩ := hcut
          have HP8 := Lib.hid hP8
          have HB8 := Lib.hid hB8
          obtain ⟨r, hr⟩ : ∃ r, lookL L' x y = r := ⟨_, rfl⟩
          obtain ⟨⟨ra, rb, rc, rd⟩, rs⟩ := r
          have h1 := sawP wc _ p m L' hP8 x y hx hy hr
          have h2 := sawM wc _ p m L' hP8 x y hr
          have H1 := Lib.hid h1
          have H2 := Lib.hid h2
          have hneq := neqOc_self
          clear h1 h2 hr hP8 hB8 hL' c0 c1 c2 c3 c4 c5
          obtain ⟨W8, hW8⟩ : ∃ W8, W8 = wc := ⟨_, rfl⟩
          subst hW8
          go_wp2_with fail
          refine (H1.out _ (Below.refl _ _)).mono ?_
          rintro e w4 ⟨rfl, hB4⟩
          have hB4' : Below W8.heap.size W8 (w4.alloc (.cells #[.int .i64 ra, .int .i64 rb, .int .i64 rc, .int .i64 rd] 27)) := hB4.alloc hB4.size _
          have hn4 := heap_alloc_new w4 (.cells #[.int .i64 ra, .int .i64 rb, .int .i64 rc, .int .i64 rd] 27)
          have HB4 := Lib.hid hB4'
          have HN4 := Lib.hid hn4
          clear hB4 hB4' hn4
          go_wp2_with fail
          refine (H2.out _ HB4.out).mono ?_
          rintro e w5 ⟨rfl, hB5⟩
          have hB5' : Below W8.heap.size W8 (w5.alloc (.cells #[.int .i64 ra, .int .i64 rb, .int .i64 rc, .int .i64 rd] 27)) := (HB4.out.trans (hB5.mono HB4.out.size)).alloc (Nat.le_trans HB4.out.size hB5.size) _
          have hn5 := heap_alloc_new w5 (.cells #[.int .i64 ra, .int .i64 rb, .int .i64 rc, .int .i64 rd] 27)
          have hn45 := ((Keeps.refl (fun _ => False) w5).alloc (.cells #[.int .i64 ra, .int .i64 rb, .int .i64 rc, .int .i64 rd] 27)).grownTo ((Keeps.of_fresh hB5 (fun _ => False)).grownTo HN4.out id) id
          clear hB5
          go_upto_region 17 with (fail)
          generalize w5.alloc (.cells #[.int .i64 ra, .int .i64 rb, .int .i64 rc, .int .i64 rd] 27) = w6 at hB5' hn5 hn45 ⊢
          obtain ⟨gA, hgA⟩ : ∃ g, w4.heap.size = g := ⟨_, rfl⟩
          obtain ⟨gC, hgC⟩ : ∃ g, w5.heap.size = g := ⟨_, rfl⟩
          rw [hgA] at hn45 ⊢
          rw [hgC] at hn5 ⊢
          have HB6 := Lib.hid hB5'
          have HN5 := Lib.hid hn5
          have HN45 := Lib.hid hn45
          clear hn5 hn45 hB5' HN4 HB4 H1 H2 hgA hgC
          go_cut [138] (fun s138 wx => s138 = .bool false ∧ Below W8.heap.size W8 wx)
          case first =>
            have hs1 := sessP W8 _ p m L' HP8.out (by omega)
            have hs2 := sessM W8 _ p m L' HP8.out (by omega)
            have hs3 := seqsP W8 _ p m L' HP8.out (by omega) l[k].ses o1
            have hs4 := seqsM W8 _ p m L' HP8.out (by omega) l[k].ses
            have S1 := Lib.hid hs1
            have S2 := Lib.hid hs2
            have S3 := Lib.hid hs3
            have S4 := Lib.hid hs4
            clear hs1 hs2 hs3 hs4
            have HBW6 := HB6
            have lA6 : gA < w6.heap.size := (Array.getElem?_eq_some_iff.1 HN45.out).1
            have lC6 : gC < w6.heap.size := (Array.getElem?_eq_some_iff.1 HN5.out).1
            have lb6 : b < w6.heap.size := Nat.lt_of_lt_of_le (Nat.lt_of_lt_of_le hbl HB8.out.size) HB6.out.size
            have a06 : w6.cell? ⟨gA, 0, none⟩ = some (.int .i64 ra) := cell_of_row _ _ 0 _ _ _ HN45.out
            have a16 : w6.cell? ⟨gA, 1, none⟩ = some (.int .i64 rb) := cell_of_row _ _ 1 _ _ _ HN45.out
            have a26 : w6.cell? ⟨gA, 2, none⟩ = some (.int .i64 rc) := cell_of_row _ _ 2 _ _ _ HN45.out
            have a36 : w6.cell? ⟨gA, 3, none⟩ = some (.int .i64 rd) := cell_of_row _ _ 3 _ _ _ HN45.out
            have e06 : w6.cell? ⟨gC, 0, none⟩ = some (.int .i64 ra) := cell_of_row _ _ 0 _ _ _ HN5.out
            have e16 : w6.cell? ⟨gC, 1, none⟩ = some (.int .i64 rb) := cell_of_row _ _ 1 _ _ _ HN5.out
            have e26 : w6.cell? ⟨gC, 2, none⟩ = some (.int .i64 rc) := cell_of_row _ _ 2 _ _ _ HN5.out
            have e36 : w6.cell? ⟨gC, 3, none⟩ = some (.int .i64 rd) := cell_of_row _ _ 3 _ _ _ HN5.out
            have cs6 : w6.cell? ⟨b, o + k * 6, none⟩ = some (.int .i64 l[k].ses) := (HB6.out.cell (p := ⟨b, _, none⟩) (Nat.lt_of_lt_of_le hbl HB8.out.size)).trans ((HB8.out.cell (p := ⟨b, _, none⟩) hbl).trans (by have := HX.out 0 _ rfl; rw [Nat.add_zero] at this; exact this))
            have hWd : Below w6.heap.size w6 w6.drew := ⟨rfl, rfl, rfl, Nat.le_refl _, fun _ _ => rfl⟩
            have hgateA : True := trivial
            clear HN45 HN5 HX HO HA HP0 HN1 HB1 HP HB HP3 HB3 HB8 HP8 o2 hx hy hbl hGb
            go_wp2_with fail
            go_region_held3 (fun z => z.cell? ⟨gA, 0, none⟩ = some (.int .i64 ra) ∧ z.cell? ⟨gA, 1, none⟩ = some (.int .i64 rb) ∧ z.cell? ⟨gA, 2, none⟩ = some (.int .i64 rc) ∧ z.cell? ⟨gA, 3, none⟩ = some (.int .i64 rd) ∧
                z.cell? ⟨gC, 0, none⟩ = some (.int .i64 ra) ∧ z.cell? ⟨gC, 1, none⟩ = some (.int .i64 rb) ∧ z.cell? ⟨gC, 2, none⟩ = some (.int .i64 rc) ∧ z.cell? ⟨gC, 3, none⟩ = some (.int .i64 rd) ∧ z.cell? ⟨b, o + k * 6, none⟩ = some (.int .i64 l[k].ses))
              (first | exact ⟨a012, a112, a212, a312, e012, e112, e212, e312, cs12⟩ | exact ⟨a011, a111, a211, a311, e011, e111, e211, e311, cs11⟩ | exact ⟨a010, a110, a210, a310, e010, e110, e210, e310, cs10⟩ | exact ⟨a09, a19, a29, a39, e09, e19, e29, e39, cs9⟩ | exact ⟨a08, a18, a28, a38, e08, e18, e28, e38, cs8⟩ | exact ⟨a07, a17, a27, a37, e07, e17, e27, e37, cs7⟩ | exact ⟨a06, a16, a26, a36, e06, e16, e26, e36, cs6⟩)
              (first
                | (have t := hgateA
                   go_at_call 14
                   have hct := S1.out w6.drew (HBW6.out.trans (hWd.mono HBW6.out.size))
                   refine hct.mono ?_
                   clear hct
                   rintro e w7 ⟨v7, ks7, rfl, hr7, hm7, hS7, hB7'⟩
                   obtain ⟨A7, c7, rfl, _, _⟩ := hS7.shape
                   have hB7 := hWd.trans hB7'
                   have lA7 := Nat.lt_of_lt_of_le lA6 hB7.size
                   have lC7 := Nat.lt_of_lt_of_le lC6 hB7.size
                   have lb7 := Nat.lt_of_lt_of_le lb6 hB7.size
                   have a07 := (hB7.cell (p := ⟨gA, 0, none⟩) lA6).trans a06
                   have a17 := (hB7.cell (p := ⟨gA, 1, none⟩) lA6).trans a16
                   have a27 := (hB7.cell (p := ⟨gA, 2, none⟩) lA6).trans a26
                   have a37 := (hB7.cell (p := ⟨gA, 3, none⟩) lA6).trans a36
                   have e07 := (hB7.cell (p := ⟨gC, 0, none⟩) lC6).trans e06
                   have e17 := (hB7.cell (p := ⟨gC, 1, none⟩) lC6).trans e16
                   have e27 := (hB7.cell (p := ⟨gC, 2, none⟩) lC6).trans e26
                   have e37 := (hB7.cell (p := ⟨gC, 3, none⟩) lC6).trans e36
                   have cs7 := (hB7.cell (p := ⟨b, o + k * 6, none⟩) lb6).trans cs6
                   have HBW7 := Lib.hid (HBW6.out.trans (hB7.mono HBW6.out.size))
                   clear hgateA t hB7')
                | (go_at_call 18
                   have hct := S2.out w7 HBW7.out
                   refine hct.mono ?_
                   clear hct
                   rintro e w8 ⟨v8, ks8, rfl, hr8, hm8, hS8, hB8⟩
                   obtain ⟨A8, c8, rfl, _, _⟩ := hS8.shape
                   have lA8 := Nat.lt_of_lt_of_le lA7 hB8.size
                   have lC8 := Nat.lt_of_lt_of_le lC7 hB8.size
                   have lb8 := Nat.lt_of_lt_of_le lb7 hB8.size
                   have a08 := (hB8.cell (p := ⟨gA, 0, none⟩) lA7).trans a07
                   have a18 := (hB8.cell (p := ⟨gA, 1, none⟩) lA7).trans a17
                   have a28 := (hB8.cell (p := ⟨gA, 2, none⟩) lA7).trans a27
                   have a38 := (hB8.cell (p := ⟨gA, 3, none⟩) lA7).trans a37
                   have e08 := (hB8.cell (p := ⟨gC, 0, none⟩) lC7).trans e07
                   have e18 := (hB8.cell (p := ⟨gC, 1, none⟩) lC7).trans e17
                   have e28 := (hB8.cell (p := ⟨gC, 2, none⟩) lC7).trans e27
                   have e38 := (hB8.cell (p := ⟨gC, 3, none⟩) lC7).trans e37
                   have cs8 := (hB8.cell (p := ⟨b, o + k * 6, none⟩) lb7).trans cs7
                   have HBW8 := Lib.hid (HBW7.out.trans (hB8.mono HBW7.out.size))
                   have hS78 := hS7.fresh hB8
                   have hkk : ks7 = ks8 := rising_one hr7 hr8 (fun z => by rw [hm7, hm8])
                   have hsame := sameInts_any w8 _ _ _ _ ks7 ks8 hS78 hS8
                   rw [decide_eq_true hkk] at hsame
                   have HSA := Lib.hid hsame
                   clear hsame hkk hr7 hr8 hm7 hm8 hS78 hS7 hS8)
                | (have t := hS11
                   go_at_call 13
                   have hkk : ks10 = ks11 := rising_one hr10 hr11 (fun z => by rw [hm10, hm11])
                   have hsame := sameInts_any w11 _ _ _ _ ks10 ks11 (hS10.fresh hB11) hS11
                   rw [decide_eq_true hkk] at hsame
                   refine hsame.mono ?_
                   rintro e w12 ⟨rfl, nq2, rfl⟩
                   have hB12 : Below w11.heap.size w11 (w11.drewN nq2) := ⟨rfl, rfl, rfl, Nat.le_refl _, fun _ _ => rfl⟩
                   have lA12 := Nat.lt_of_lt_of_le lA11 hB12.size
                   have lC12 := Nat.lt_of_lt_of_le lC11 hB12.size
                   have lb12 := Nat.lt_of_lt_of_le lb11 hB12.size
                   have a012 := (hB12.cell (p := ⟨gA, 0, none⟩) lA11).trans a011
                   have a112 := (hB12.cell (p := ⟨gA, 1, none⟩) lA11).trans a111
                   have a212 := (hB12.cell (p := ⟨gA, 2, none⟩) lA11).trans a211
                   have a312 := (hB12.cell (p := ⟨gA, 3, none⟩) lA11).trans a311
                   have e012 := (hB12.cell (p := ⟨gC, 0, none⟩) lC11).trans e011
                   have e112 := (hB12.cell (p := ⟨gC, 1, none⟩) lC11).trans e111
                   have e212 := (hB12.cell (p := ⟨gC, 2, none⟩) lC11).trans e211
                   have e312 := (hB12.cell (p := ⟨gC, 3, none⟩) lC11).trans e311
                   have cs12 := (hB12.cell (p := ⟨b, o + k * 6, none⟩) lb11).trans cs11
                   have HBW12 := Lib.hid (HBW11.out.trans (hB12.mono HBW11.out.size))
                   clear t hkk hsame)
                | (go_at_call 13
                   refine HSA.out.mono ?_
                   rintro e w9 ⟨rfl, nq, rfl⟩
                   have hB9 : Below w8.heap.size w8 (w8.drewN nq) := ⟨rfl, rfl, rfl, Nat.le_refl _, fun _ _ => rfl⟩
                   have lA9 := Nat.lt_of_lt_of_le lA8 hB9.size
                   have lC9 := Nat.lt_of_lt_of_le lC8 hB9.size
                   have lb9 := Nat.lt_of_lt_of_le lb8 hB9.size
                   have a09 := (hB9.cell (p := ⟨gA, 0, none⟩) lA8).trans a08
                   have a19 := (hB9.cell (p := ⟨gA, 1, none⟩) lA8).trans a18
                   have a29 := (hB9.cell (p := ⟨gA, 2, none⟩) lA8).trans a28
                   have a39 := (hB9.cell (p := ⟨gA, 3, none⟩) lA8).trans a38
                   have e09 := (hB9.cell (p := ⟨gC, 0, none⟩) lC8).trans e08
                   have e19 := (hB9.cell (p := ⟨gC, 1, none⟩) lC8).trans e18
                   have e29 := (hB9.cell (p := ⟨gC, 2, none⟩) lC8).trans e28
                   have e39 := (hB9.cell (p := ⟨gC, 3, none⟩) lC8).trans e38
                   have cs9 := (hB9.cell (p := ⟨b, o + k * 6, none⟩) lb8).trans cs8
                   have HBW9 := Lib.hid (HBW8.out.trans (hB9.mono HBW8.out.size))
                   have hgateB : True := trivial)
                | (have t := hgateB
                   go_at_call 12
                   have hct := S3.out (w8.drewN nq) HBW9.out
                   refine hct.mono ?_
                   clear hct
                   rintro e w10 ⟨v10, ks10, rfl, hr10, hm10, hS10, hB10⟩
                   obtain ⟨A10, c10, rfl, _, _⟩ := hS10.shape
                   have lA10 := Nat.lt_of_lt_of_le lA9 hB10.size
                   have lC10 := Nat.lt_of_lt_of_le lC9 hB10.size
                   have lb10 := Nat.lt_of_lt_of_le lb9 hB10.size
                   have a010 := (hB10.cell (p := ⟨gA, 0, none⟩) lA9).trans a09
                   have a110 := (hB10.cell (p := ⟨gA, 1, none⟩) lA9).trans a19
                   have a210 := (hB10.cell (p := ⟨gA, 2, none⟩) lA9).trans a29
                   have a310 := (hB10.cell (p := ⟨gA, 3, none⟩) lA9).trans a39
                   have e010 := (hB10.cell (p := ⟨gC, 0, none⟩) lC9).trans e09
                   have e110 := (hB10.cell (p := ⟨gC, 1, none⟩) lC9).trans e19
                   have e210 := (hB10.cell (p := ⟨gC, 2, none⟩) lC9).trans e29
                   have e310 := (hB10.cell (p := ⟨gC, 3, none⟩) lC9).trans e39
                   have cs10 := (hB10.cell (p := ⟨b, o + k * 6, none⟩) lb9).trans cs9
                   have HBW10 := Lib.hid (HBW9.out.trans (hB10.mono HBW9.out.size))
                   clear t)
                | (go_at_call 19
                   have hct := S4.out w10 HBW10.out
                   refine hct.mono ?_
                   clear hct
                   rintro e w11 ⟨v11, ks11, rfl, hr11, hm11, hS11, hB11⟩
                   obtain ⟨A11, c11, rfl, _, _⟩ := hS11.shape
                   have lA11 := Nat.lt_of_lt_of_le lA10 hB11.size
                   have lC11 := Nat.lt_of_lt_of_le lC10 hB11.size
                   have lb11 := Nat.lt_of_lt_of_le lb10 hB11.size
                   have a011 := (hB11.cell (p := ⟨gA, 0, none⟩) lA10).trans a010
                   have a111 := (hB11.cell (p := ⟨gA, 1, none⟩) lA10).trans a110
                   have a211 := (hB11.cell (p := ⟨gA, 2, none⟩) lA10).trans a210
                   have a311 := (hB11.cell (p := ⟨gA, 3, none⟩) lA10).trans a310
                   have e011 := (hB11.cell (p := ⟨gC, 0, none⟩) lC10).trans e010
                   have e111 := (hB11.cell (p := ⟨gC, 1, none⟩) lC10).trans e110
                   have e211 := (hB11.cell (p := ⟨gC, 2, none⟩) lC10).trans e210
                   have e311 := (hB11.cell (p := ⟨gC, 3, none⟩) lC10).trans e310
                   have cs11 := (hB11.cell (p := ⟨b, o + k * 6, none⟩) lb10).trans cs10
                   have HBW11 := Lib.hid (HBW10.out.trans (hB11.mono HBW10.out.size))
                   ))
            all_goals go_wp2_with fail
            all_goals go_meet
            all_goals exact ⟨rfl, HBW12.out⟩
          case rest =>
            obtain ⟨rfl, hB9⟩ := hcut
            obtain ⟨W9, hW9⟩ : ∃ W9, W9 = wc := ⟨_, rfl⟩
            subst hW9
            have HP9 := Lib.hid (HP8.out.fresh hB9)
            have HB9 := Lib.hid (HB8.out.trans (hB9.mono HB8.out.size))
            clear hB9 HN45 HN5 HB6
            go_wp2_with fail
            go_loopw [16] (fun i wx => ∃ j : Nat, j ≤ k + 1 ∧ i = .int .i64 j ∧ Below W9.heap.size W9 wx) (fun i _ => k + 1 - (Go.RowKit.intOf i).toNat)
            case atStart => exact ⟨0, Nat.zero_le _, rfl, Below.refl _ _⟩
            case round =>
              obtain ⟨j, hj, rfl, hBq⟩ := hrel
              obtain ⟨wv, hwv⟩ : ∃ wv, wv = wr := ⟨_, rfl⟩
              subst hwv
              have HPv := Lib.hid (HP9.out.fresh hBq)
              have HBv := Lib.hid (HB9.out.trans (hBq.mono HB9.out.size))
              have HBq := Lib.hid hBq
              clear hBq
              by_cases hjk : j ≤ k
              · have hjl : j < l.length := by omega
                have dj : decide ((j : Int) ≤ (k : Int)) = true := by simp; omega
                obtain ⟨b8, o8, he8, _, _, hx8⟩ := HA.out.cell_ hjl
                injection he8 with he8
                injection he8 with he8 he9
                subst he8 he9
                have x0 := (HBv.out.cell (p := ⟨b, _, none⟩) hbl).trans (hx8 0 _ rfl)
                have x1 := (HBv.out.cell (p := ⟨b, _, none⟩) hbl).trans (hx8 1 _ rfl)
                simp only [Nat.add_zero] at x0
                clear hx8
                obtain ⟨j1, j2⟩ := HO.out l[j] (List.getElem_mem hjl)
                obtain ⟨r2, hr2⟩ : ∃ r, lookL L' l[j].ses l[j].seq = r := ⟨_, rfl⟩
                obtain ⟨⟨ta, tb, tc, td⟩, ts⟩ := r2
                have h1 := sawP wv _ p m L' HPv.out l[j].ses l[j].seq j1 j2 hr2
                have h2 := fun wy hP => sawM wy (fun z => z < w.heap.size) p m L' hP l[j].ses l[j].seq hr2
                have HLK := Lib.hid h1
                have HLM := Lib.hid h2
                clear h1 h2 hr2
                go_upto_region 23 with (fail)
                go_cut [17, 18] (fun s17 s18 wx => SawCut wv ta tb tc td ts s17 s18 wx)
                case first =>
                  clear HA HO HN1 HB1 HP0 HP HB HX HP3 HB3 HP8 HB8 HP9 HB9 HBq HPv HBv HLM
                  have hnew0 := World.new_ne wv _ x0
                  have hnew1 := World.new_ne wv _ x1
                  have hbw0 := World.block_lt_of_cell? _ _ x0
                  have hbw1 := World.block_lt_of_cell? _ _ x1
                  have hWd : Below wv.heap.size wv wv.drew := ⟨rfl, rfl, rfl, Nat.le_refl _, fun _ _ => rfl⟩
                  go_wp2_with fail
                  go_region_held3 (fun x => x.cell? ⟨b, o+j*6, none⟩ = some (.int .i64 l[j].ses) ∧ x.cell? ⟨b, o+j*6+1, none⟩ = some (.int .i64 l[j].seq))
                    (first | exact ⟨by assumption, by assumption⟩ | go_keep)
                    (first
                      | (go_at_call 10
                         refine (HLK.out _ (by first | exact hWd | exact hWd.alloc (Nat.le_refl _) _)).mono ?_
                         rintro e w2 ⟨rfl, hB2⟩
                         have hz2 := hB2.size
                         have hB2' : Below wv.heap.size wv w2 := by
                           first
                           | exact hWd.trans hB2
                           | exact (hWd.alloc (Nat.le_refl _) _).trans (hB2.mono (by simp))
                         try
                           (have hblk := (Keeps.of_fresh hB2 (fun _ => False)).grownTo (heap_alloc_new wv.drew (.cells #[.int .i64 0, .int .i64 0, .int .i64 0, .int .i64 0] 27)) id
                            have q0 : w2.cell? ⟨wv.heap.size, 0, none⟩ = some (.int .i64 0) := cell_of_row w2 _ 0 _ _ _ hblk
                            have q1 : w2.cell? ⟨wv.heap.size, 1, none⟩ = some (.int .i64 0) := cell_of_row w2 _ 1 _ _ _ hblk
                            have q2 : w2.cell? ⟨wv.heap.size, 2, none⟩ = some (.int .i64 0) := cell_of_row w2 _ 2 _ _ _ hblk
                            have q3 : w2.cell? ⟨wv.heap.size, 3, none⟩ = some (.int .i64 0) := cell_of_row w2 _ 3 _ _ _ hblk
                            have f0 : w2.frozen? ⟨wv.heap.size, 0, none⟩ = false := frozen_block hblk 0
                            have f1 : w2.frozen? ⟨wv.heap.size, 1, none⟩ = false := frozen_block hblk 1
                            have f2 : w2.frozen? ⟨wv.heap.size, 2, none⟩ = false := frozen_block hblk 2
                            have f3 : w2.frozen? ⟨wv.heap.size, 3, none⟩ = false := frozen_block hblk 3
                            have HBLK := Lib.hid hblk
                            clear hblk)
                         have HB2 := Lib.hid hB2'
                         have y0 := (hB2'.cell (p := ⟨b, o+j*6, none⟩) hbw0).trans x0
                         have y1 := (hB2'.cell (p := ⟨b, o+j*6+1, none⟩) hbw1).trans x1
                         clear hB2 hB2'))
                  all_goals go_wp2_with fail
                  all_goals go_meet
                  · exact SawCut.new HB2.out
                  · exact SawCut.old HB2.out HBLK.out
                case rest =>
                  obtain ⟨gA, rfl, rfl, hgA, hbA, hB10⟩ := hcut
                  obtain ⟨wu, hwu⟩ : ∃ wu, wu = wc := ⟨_, rfl⟩
                  subst hwu
                  have hvu : wv.heap.size ≤ wu.heap.size := hB10.size
                  have x2 := (hB10.cell (p := ⟨b, _, none⟩) (Nat.lt_of_lt_of_le hbl HBv.out.size)).trans x0
                  have x3 := (hB10.cell (p := ⟨b, _, none⟩) (Nat.lt_of_lt_of_le hbl HBv.out.size)).trans x1
                  have HBA := Lib.hid hbA
                  have HB10 := Lib.hid hB10
                  have hlm := HLM.out wu (HPv.out.fresh hB10)
                  clear hbA hB10 HLK HLM x0 x1
                  have HLK := Lib.hid hlm
                  have x0 := x2
                  have x1 := x3
                  clear hlm x2 x3
                  go_upto_region 24 with (fail)
                  go_cut [19, 20] (fun s19 s20 wx => SawCut wu ta tb tc td ts s19 s20 wx)
                  case first =>
                    clear HA HO HN1 HB1 HP0 HP HB HX HP3 HB3 HP8 HB8 HP9 HB9 HBq HPv HBv HBA HB10
                    have hnew0 := World.new_ne wu _ x0
                    have hnew1 := World.new_ne wu _ x1
                    have hbw0 := World.block_lt_of_cell? _ _ x0
                    have hbw1 := World.block_lt_of_cell? _ _ x1
                    have hWd : Below wu.heap.size wu wu.drew := ⟨rfl, rfl, rfl, Nat.le_refl _, fun _ _ => rfl⟩
                    go_wp2_with fail
                    go_region_held3 (fun x => x.cell? ⟨b, o+j*6, none⟩ = some (.int .i64 l[j].ses) ∧ x.cell? ⟨b, o+j*6+1, none⟩ = some (.int .i64 l[j].seq))
                      (first | exact ⟨by assumption, by assumption⟩ | go_keep)
                      (first
                        | (go_at_call 17
                           refine (HLK.out _ (by first | exact hWd | exact hWd.alloc (Nat.le_refl _) _)).mono ?_
                           rintro e w2 ⟨rfl, hB2⟩
                           have hz2 := hB2.size
                           have hB2' : Below wu.heap.size wu w2 := by
                             first
                             | exact hWd.trans hB2
                             | exact (hWd.alloc (Nat.le_refl _) _).trans (hB2.mono (by simp))
                           try
                             (have hblk := (Keeps.of_fresh hB2 (fun _ => False)).grownTo (heap_alloc_new wu.drew (.cells #[.int .i64 0, .int .i64 0, .int .i64 0, .int .i64 0] 27)) id
                              have q0 : w2.cell? ⟨wu.heap.size, 0, none⟩ = some (.int .i64 0) := cell_of_row w2 _ 0 _ _ _ hblk
                              have q1 : w2.cell? ⟨wu.heap.size, 1, none⟩ = some (.int .i64 0) := cell_of_row w2 _ 1 _ _ _ hblk
                              have q2 : w2.cell? ⟨wu.heap.size, 2, none⟩ = some (.int .i64 0) := cell_of_row w2 _ 2 _ _ _ hblk
                              have q3 : w2.cell? ⟨wu.heap.size, 3, none⟩ = some (.int .i64 0) := cell_of_row w2 _ 3 _ _ _ hblk
                              have f0 : w2.frozen? ⟨wu.heap.size, 0, none⟩ = false := frozen_block hblk 0
                              have f1 : w2.frozen? ⟨wu.heap.size, 1, none⟩ = false := frozen_block hblk 1
                              have f2 : w2.frozen? ⟨wu.heap.size, 2, none⟩ = false := frozen_block hblk 2
                              have f3 : w2.frozen? ⟨wu.heap.size, 3, none⟩ = false := frozen_block hblk 3
                              have HBLK := Lib.hid hblk
                              clear hblk)
                           have HB2 := Lib.hid hB2'
                           have y0 := (hB2'.cell (p := ⟨b, o+j*6, none⟩) hbw0).trans x0
                           have y1 := (hB2'.cell (p := ⟨b, o+j*6+1, none⟩) hbw1).trans x1
                           clear hB2 hB2'))
                    all_goals go_wp2_with fail
                    all_goals go_meet
                    · exact SawCut.new HB2.out
                    · exact SawCut.old HB2.out HBLK.out
                  case rest =>
                    obtain ⟨gC, rfl, rfl, hgC, hbC, hB11⟩ := hcut
                    have hgAl := (Array.getElem?_eq_some_iff.1 HBA.out).1
                    have hbA := (Keeps.of_fresh hB11 (fun _ => False)).grownTo HBA.out id
                    have a0 : wc.cell? ⟨gA, 0, none⟩ = some (.int .i64 ta) := cell_of_row _ _ 0 _ _ _ hbA
                    have a1 : wc.cell? ⟨gA, 1, none⟩ = some (.int .i64 tb) := cell_of_row _ _ 1 _ _ _ hbA
                    have a2 : wc.cell? ⟨gA, 2, none⟩ = some (.int .i64 tc) := cell_of_row _ _ 2 _ _ _ hbA
                    have a3 : wc.cell? ⟨gA, 3, none⟩ = some (.int .i64 td) := cell_of_row _ _ 3 _ _ _ hbA
                    have e0 : wc.cell? ⟨gC, 0, none⟩ = some (.int .i64 ta) := cell_of_row _ _ 0 _ _ _ hbC
                    have e1 : wc.cell? ⟨gC, 1, none⟩ = some (.int .i64 tb) := cell_of_row _ _ 1 _ _ _ hbC
                    have e2 : wc.cell? ⟨gC, 2, none⟩ = some (.int .i64 tc) := cell_of_row _ _ 2 _ _ _ hbC
                    have e3 : wc.cell? ⟨gC, 3, none⟩ = some (.int .i64 td) := cell_of_row _ _ 3 _ _ _ hbC
                    have HB11 := Lib.hid (HBq.out.trans ((HB10.out.trans (hB11.mono HB10.out.size)).mono HBq.out.size))
                    clear hbA hbC hB11 x0 x1
                    go_wp2_with fail
                    go_roundw
                    case rel => exact ⟨j + 1, by omega, by go_num, HB11.out⟩
                    case measure => simp [Go.RowKit.intOf]; omega
              · have dj : decide ((j : Int) ≤ (k : Int)) = false := by simp; omega
                go_wp2_with fail
                go_roundw
                case rel => exact ⟨k + 1, L', hlt, hLl, by go_num, HPv.out, HBv.out⟩
                case measure => simp [Go.RowKit.intOf]; omega
      · have hkd : k = l.length := by omega
        subst hkd
        go_wp2_with fail
        go_ret
        exact ⟨rfl, HB.out⟩
  · have d80 : decide ((80 : Int) < (l.length : Int)) = true := by simp; omega
    go_wp2_with fail
    go_ret
    exact ⟨rfl, HB1.out⟩
end Go.Proofs.Ytdmpedcdnfjapaa
