/- NetPlays: what the statement's function does: it answers true. -/
import Derived.Test.YtnooggfecgidcaaNetK
import Derived.Deep.CutBlock
import Derived.Deep.DeepCutAuto
namespace Go.Proofs.Ytnooggfecgidcaa
open Go.RowKit Go.Bl
attribute [local go_sem ↓] Go.wp_at_zero Go.wp_at_succ

def actO (a : Ac) : Obj := .cells #[.int .i64 a.op, .int .i64 a.frm, .int .i64 a.to, .int .i64 a.no, .string a.txt] 46
def pkO (a : Pk) : Obj := .cells #[.int .i64 a.no, .int .i64 a.frm, .int .i64 a.to, .string a.txt] 32
def PlaysRel (w : World) (p q : Nat) (n : Nat) (i : Value) (wr : World) : Prop :=
  ∃ (k : Nat) (s : Nt), k ≤ n ∧ i = .int .i64 k ∧ s.last ≤ k ∧ s.lost ≤ k ∧ Two (fun z => z < w.heap.size) wr p q s s ∧ Below w.heap.size w wr
def PlaysCut (w : World) (a p q : Nat) (k : Nat) (wx : World) : Prop :=
  ∃ s : Nt, s.last ≤ (k : Int) + 1 ∧ s.lost ≤ (k : Int) + 1 ∧ Two (fun z => z < w.heap.size ∨ z = a) wx p q s s ∧ Below w.heap.size w wx
def PlaysIn (w5 : World) (n : Nat) (i : Value) (wz : World) : Prop :=
  ∃ j : Nat, j ≤ n ∧ i = .int .i64 j ∧ Below w5.heap.size w5 wz
def PlaysNo (W : World) (v : Value) (wx : World) : Prop := ∃ (x : Int) (n : Nat), i64 x ∧ v = .int .i64 x ∧ wx = W.drewN n

set_option maxRecDepth 4000 in
set_option maxHeartbeats 2000000 in
theorem plays_any (w : World) (G : Nat → Prop) (room : Int) (v : Value) (l : List Ac) (h : Sl w G 5 acc v l) (hok : ∀ a ∈ l, AcOk a) :
    Calls Try.prog 6 #[.int .i64 room, v] w fun e w' => e = .returned (.bool true) ∧ Below w.heap.size w w' := by
  obtain ⟨A, c, rfl, hA1, hA2⟩ := h.shape
  unfold maxLen at hA2
  have HA := Lib.hid h
  have HO := Lib.hid hok
  clear h hok
  go_enter Try.func6, Try.ntmps6
  go_wp2_with fail
  refine (shown_any w).mono ?_
  rintro e w0 ⟨rfl, hB0⟩
  have HB0 := Lib.hid hB0
  have HA0 := Lib.hid (HA.out.keep (Keeps.of_fresh hB0 (fun k => w.heap.size ≤ k)) (fun k hk _ hx => by omega))
  clear hB0
  go_wp2_with fail
  refine (small_any w0 G _ l HA0.out HO.out).mono ?_
  rintro e w0' ⟨rfl, rfl⟩
  cases hsm : smallB l
  · go_wp2_with fail
    go_ret
    exact ⟨rfl, HB0.out⟩
  have HSM := Lib.hid hsm
  have hl100 : l.length ≤ 100 := by
    have := HSM.out
    simp only [smallB, Bool.and_eq_true, decide_eq_true_eq] at this
    exact this.1
  go_wp2_with fail
  by_cases hroom : 1 ≤ room ∧ room ≤ 1048576
  · obtain ⟨hr1, hr2⟩ := hroom
    refine (new_ok w0 room hr1 hr2).mono ?_
    rintro e w1 ⟨rfl, hN1, hB1⟩
    have HN1 := Lib.hid hN1
    have HB1 := Lib.hid (HB0.out.trans (hB1.mono HB0.out.size))
    have hz1 := HB0.out.size
    have hz2 := hB1.size
    obtain ⟨p, hp⟩ : ∃ p, w0.heap.size + 1 = p := ⟨_, rfl⟩
    unfold ptr
    rw [hp]
    rw [hp] at HN1
    clear hN1 hB1 hp
    go_wp2_with fail
    refine (rnew_ok w1 room hr1 hr2).mono ?_
    rintro e w2 ⟨rfl, hN2, hB2⟩
    have hT : Two (fun z => z < w.heap.size) w2 p w1.heap.size ⟨room, 0, 0, []⟩ ⟨room, 0, 0, []⟩ :=
      ⟨_, _, HN1.out.fresh hB2, hN2, fun z h1 h2 => by omega, fun z h1 h2 => by omega, fun z h1 h2 => by omega⟩
    have HT := Lib.hid hT
    have HB2 := Lib.hid (HB1.out.trans (hB2.mono HB1.out.size))
    obtain ⟨q, hq⟩ : ∃ q, w1.heap.size = q := ⟨_, rfl⟩
    rw [hq]
    rw [hq] at HT
    clear hN2 hB2 hT hq HN1 HB1 hz1 hz2
    go_wp2_with fail
    go_loopw [11] (fun i wr => PlaysRel w p q l.length i wr) (fun i _ => l.length - (Go.RowKit.intOf i).toNat)
    case atStart => exact ⟨0, _, Nat.zero_le _, rfl, Int.le_refl _, Int.le_refl _, HT.out, HB2.out⟩
    case round =>
      obtain ⟨k, s, hk, rfl, hlast, hlost, hT, hB⟩ := hrel
      have HT := Lib.hid hT
      have HB := Lib.hid hB
      clear hT hB
      by_cases hlt : k < l.length
      · obtain ⟨b, o, rfl, hGb, hbl, hx⟩ := HA.out.cell_ hlt
        have x0 := (HB.out.cell (p := ⟨b, _, none⟩) hbl).trans (hx 0 _ rfl)
        have x1 := (HB.out.cell (p := ⟨b, _, none⟩) hbl).trans (hx 1 _ rfl)
        have x2 := (HB.out.cell (p := ⟨b, _, none⟩) hbl).trans (hx 2 _ rfl)
        have x3 := (HB.out.cell (p := ⟨b, _, none⟩) hbl).trans (hx 3 _ rfl)
        have x4 := (HB.out.cell (p := ⟨b, _, none⟩) hbl).trans (hx 4 _ rfl)
        simp only [Nat.add_zero] at x0
        clear hx
        obtain ⟨o1, o2, o3, o4, o5⟩ := HO.out l[k] (List.getElem_mem hlt)
        have HO5 := Lib.hid (And.intro o1 (And.intro o2 (And.intro o3 (And.intro o4 o5))))
        clear o1 o2 o3 o4 o5
        have hlast0 : 0 ≤ s.last := HT.out.ok.last0
        have hlost0 : 0 ≤ s.lost := HT.out.ok.lost0
        have hnos := HT.out.ok.nos
        have HNO := Lib.hid hnos
        clear hnos
        have hk100 : k < 100 := by omega
        obtain ⟨Ar, cr, d0, d3, dc1, dc2, hdS, hql⟩ := Two.ref wr _ p q s s HT.out
        have HDS := Lib.hid hdS
        unfold maxLen at dc2
        clear hdS
        go_upto_region 14 with (fail)
        go_cut [100] (fun s100 wx => ∃ tb : Bool, s100 = .bool tb ∧ (tb = true → 0 < s.L.length) ∧ wr.alloc (actO l[k]) = wx)
        case first =>
          by_cases hlen : 0 < s.L.length
          · go_wp2_with fail
            go_meet
            exact ⟨_, rfl, fun _ => hlen, rfl⟩
          · have hl0 : s.L.length = 0 := by omega
            go_wp2_with fail
            go_meet
            exact ⟨false, rfl, (fun h => by cases h), rfl⟩
        case rest =>
          obtain ⟨tb, rfl, htb, rfl⟩ := hcut
          have hW1b : Below wr.heap.size wr (wr.alloc (actO l[k])) := (Below.refl _ wr).alloc (Nat.le_refl _) _
          have hblk := heap_alloc_new wr (actO l[k])
          have hT1 := (HT.out.more (X' := fun z => z < w.heap.size ∨ z = wr.heap.size) (fun z hz => hz.imp id (fun e => by omega))).fresh hW1b
          have hz1 : (wr.alloc (actO l[k])).heap.size = wr.heap.size + 1 := World.size_alloc _ _
          generalize wr.alloc (actO l[k]) = W1 at hW1b hblk hT1 hz1 ⊢
          unfold actO at hblk
          have y0 : W1.cell? ⟨wr.heap.size, 0, none⟩ = some (.int .i64 l[k].op) := cell_of_row W1 _ 0 _ _ _ hblk
          have y1 : W1.cell? ⟨wr.heap.size, 1, none⟩ = some (.int .i64 l[k].frm) := cell_of_row W1 _ 1 _ _ _ hblk
          have y2 : W1.cell? ⟨wr.heap.size, 2, none⟩ = some (.int .i64 l[k].to) := cell_of_row W1 _ 2 _ _ _ hblk
          have y3 : W1.cell? ⟨wr.heap.size, 3, none⟩ = some (.int .i64 l[k].no) := cell_of_row W1 _ 3 _ _ _ hblk
          have y4 : W1.cell? ⟨wr.heap.size, 4, none⟩ = some (.string l[k].txt) := cell_of_row W1 _ 4 _ _ _ hblk
          have e0 : W1.cell? ⟨q, 0, none⟩ = some (.slice Ar s.L.length cr) := (hW1b.cell (p := ⟨q, 0, none⟩) hql).trans d0
          have HW := Lib.hid hW1b
          have HT1 := Lib.hid hT1
          have HD1 := Lib.hid (HDS.out.fresh hW1b)
          have HZ1 := Lib.hid hz1
          have hs5 := HO5.out.2.2.2.2
          have hXW : ∀ z, (z < w.heap.size ∨ z = wr.heap.size) → z < W1.heap.size := fun z hz => by have := HB.out.size; omega
          have HXW := Lib.hid hXW
          have hn21 := HNO.out
          clear hblk hW1b hT1 hz1 d0 d3 x0 x1 x2 x3 x4 hXW hn21
          go_upto_if 100 with (fail)
          go_cut [13] (fun s13 wx => PlaysNo W1 s13 wx)
          case first =>
           as_aux_lemma =>
            cases tb
            · go_wp2_with fail
              go_meet
              exact ⟨l[k].no, 0, HO5.out.2.2.2.1, rfl, rfl⟩
            · have hlen := htb rfl
              have hll : s.L.length ≤ 1048576 := by have := HT.out.ok.len; have := HT.out.ok.room2; omega
              have hp2 := fun n => pick_any (W1.drewN n) l[k].no s.L.length HO5.out.2.2.2.1 (by omega)
              obtain ⟨kk, hkk, hkS⟩ : ∃ kk : Nat, (if l[k].no < 0 then -(l[k].no + 1) else l[k].no) % (s.L.length : Int) = (kk : Int) ∧ kk < s.L.length := by
                have h1 := Int.emod_nonneg (if l[k].no < 0 then -(l[k].no + 1) else l[k].no) (show (s.L.length : Int) ≠ 0 by omega)
                have h2 := Int.emod_lt_of_pos (if l[k].no < 0 then -(l[k].no + 1) else l[k].no) (show (0 : Int) < (s.L.length : Int) by omega)
                exact ⟨((if l[k].no < 0 then -(l[k].no + 1) else l[k].no) % (s.L.length : Int)).toNat, by omega, by omega⟩
              rw [hkk] at hp2
              have HP2 : Hid (∀ n, Calls Try.prog 13 #[.int .i64 l[k].no, .int .i64 s.L.length] (W1.drewN n) fun e w' => e = .returned (.int .i64 kk) ∧ w' = W1.drewN n) := Lib.hid (fun n => (hp2 n).mono fun _ _ h => ⟨h.1, h.2.symm⟩)
              obtain ⟨be, oe, rfl, _, _, hxe⟩ := HD1.out.cell_ hkS
              have e1 := hxe 0 _ rfl
              rw [Nat.add_zero] at e1
              have hkI : (kk : Int) < (s.L.length : Int) := by omega
              have hno := HNO.out _ (List.getElem_mem hkS)
              clear htb hp2 hkk hxe
              go_wp2_with fail
              go_quiet (refine Calls.quiet_of_same (HP2.out _))
              go_wp2_with fail
              go_meet
              exact ⟨s.L[kk].no, _, by unfold i64; omega, rfl, rfl⟩
          case rest =>
            obtain ⟨x, n, hx64, rfl, rfl⟩ := hcut
            have hWn : Below W1.heap.size W1 (W1.drewN n) := ⟨rfl, rfl, rfl, Nat.le_refl _, fun _ _ => rfl⟩
            have hzn : (W1.drewN n).heap.size = W1.heap.size := rfl
            have y0 : (W1.drewN n).cell? ⟨wr.heap.size, 0, none⟩ = some (.int .i64 l[k].op) := y0
            have y1 : (W1.drewN n).cell? ⟨wr.heap.size, 1, none⟩ = some (.int .i64 l[k].frm) := y1
            have y2 : (W1.drewN n).cell? ⟨wr.heap.size, 2, none⟩ = some (.int .i64 l[k].to) := y2
            have y4 : (W1.drewN n).cell? ⟨wr.heap.size, 4, none⟩ = some (.string l[k].txt) := y4
            have hT2 := HT1.out.fresh hWn
            have hB2 : Below w.heap.size w (W1.drewN n) := (HB.out.trans (HW.out.mono HB.out.size)).trans (hWn.mono (by have := HB.out.size; have := HZ1.out; omega))
            generalize W1.drewN n = W2 at hWn hzn y0 y1 y2 y4 hT2 hB2 ⊢
            have hXW2 : ∀ z, (z < w.heap.size ∨ z = wr.heap.size) → z < W2.heap.size := fun z hz => by have := HXW.out z hz; omega
            have HX2 := Lib.hid hXW2
            have HT2 := Lib.hid hT2
            have HB2' := Lib.hid hB2
            have haz : wr.heap.size < W2.heap.size := hXW2 _ (.inr rfl)
            clear hWn hzn hT2 hB2 hXW2 e0 HD1 HT1 HW HDS
            go_wp2_with fail
            refine (pick_any _ l[k].op 7 HO5.out.1 (by omega)).mono ?_
            obtain ⟨r, hr, hr7⟩ : ∃ r : Nat, (if l[k].op < 0 then -(l[k].op + 1) else l[k].op) % 7 = (r : Int) ∧ r < 7 := ⟨((if l[k].op < 0 then -(l[k].op + 1) else l[k].op) % 7).toNat, by omega, by omega⟩
            rintro e w2 ⟨he, rfl⟩
            rw [hr] at he
            subst he
            clear hr y0
            go_upto_block 2 with (fail)
            go_cut [] (fun wx => PlaysCut w wr.heap.size p q k wx)
            case first =>
              obtain rfl | rfl | rfl | rfl | rfl | rfl | rfl : r = 0 ∨ r = 1 ∨ r = 2 ∨ r = 3 ∨ r = 4 ∨ r = 5 ∨ r = 6 := by omega
              · as_aux_lemma =>
                  clear hr7
                  go_wp2_with fail
                  refine (nSend _ _ HX2.out p q s s HT2.out l[k].frm l[k].to l[k].txt (by unfold maxLen; omega) (by omega) (by omega)).mono ?_
                  rintro e w3 ⟨rfl, hT3, hK3⟩
                  have z1 := (hK3.cell (a := ⟨wr.heap.size, 1, none⟩) haz (fun h => h (.inr rfl))).trans y1
                  have z2 := (hK3.cell (a := ⟨wr.heap.size, 2, none⟩) haz (fun h => h (.inr rfl))).trans y2
                  have z4 := (hK3.cell (a := ⟨wr.heap.size, 4, none⟩) haz (fun h => h (.inr rfl))).trans y4
                  have hX3 := fun z hz => Nat.lt_of_lt_of_le (HX2.out z hz) hK3.size
                  have HX3 := Lib.hid hX3
                  have HT3 := Lib.hid hT3
                  have HB3 := Lib.hid (HB2'.out.trans (below_not hK3 HB2'.out.size (fun z hz => .inl hz)))
                  clear hT3 hK3 hX3 y1 y2 y4
                  go_wp2_with fail
                  refine (rSend _ _ HX3.out p q _ s HT3.out l[k].frm l[k].to l[k].txt (by unfold maxLen; omega) (by omega) (by omega) HT3.out.ok).mono ?_
                  rintro e w4 ⟨rfl, hT4, hK4⟩
                  have HT4 := Lib.hid hT4
                  have HB4 := Lib.hid (HB3.out.trans (below_not hK4 HB3.out.size (fun z hz => .inl hz)))
                  clear hT4 hK4
                  go_wp2_with fail
                  go_meet
                  obtain ⟨b1, b2, _⟩ := send_bound s l[k].frm l[k].to l[k].txt
                  exact ⟨_, by omega, by omega, HT4.out, HB4.out⟩
              · as_aux_lemma =>
                  clear hr7
                  go_wp2_with fail
                  refine (nSend _ _ HX2.out p q s s HT2.out l[k].frm l[k].to l[k].txt (by unfold maxLen; omega) (by omega) (by omega)).mono ?_
                  rintro e w3 ⟨rfl, hT3, hK3⟩
                  have z1 := (hK3.cell (a := ⟨wr.heap.size, 1, none⟩) haz (fun h => h (.inr rfl))).trans y1
                  have z2 := (hK3.cell (a := ⟨wr.heap.size, 2, none⟩) haz (fun h => h (.inr rfl))).trans y2
                  have z4 := (hK3.cell (a := ⟨wr.heap.size, 4, none⟩) haz (fun h => h (.inr rfl))).trans y4
                  have hX3 := fun z hz => Nat.lt_of_lt_of_le (HX2.out z hz) hK3.size
                  have HX3 := Lib.hid hX3
                  have HT3 := Lib.hid hT3
                  have HB3 := Lib.hid (HB2'.out.trans (below_not hK3 HB2'.out.size (fun z hz => .inl hz)))
                  clear hT3 hK3 hX3 y1 y2 y4
                  go_wp2_with fail
                  refine (rSend _ _ HX3.out p q _ s HT3.out l[k].frm l[k].to l[k].txt (by unfold maxLen; omega) (by omega) (by omega) HT3.out.ok).mono ?_
                  rintro e w4 ⟨rfl, hT4, hK4⟩
                  have HT4 := Lib.hid hT4
                  have HB4 := Lib.hid (HB3.out.trans (below_not hK4 HB3.out.size (fun z hz => .inl hz)))
                  clear hT4 hK4
                  go_wp2_with fail
                  go_meet
                  obtain ⟨b1, b2, _⟩ := send_bound s l[k].frm l[k].to l[k].txt
                  exact ⟨_, by omega, by omega, HT4.out, HB4.out⟩
              · as_aux_lemma =>
                  clear hr7
                  go_wp2_with fail
                  refine (nSend _ _ HX2.out p q s s HT2.out l[k].frm l[k].to l[k].txt (by unfold maxLen; omega) (by omega) (by omega)).mono ?_
                  rintro e w3 ⟨rfl, hT3, hK3⟩
                  have z1 := (hK3.cell (a := ⟨wr.heap.size, 1, none⟩) haz (fun h => h (.inr rfl))).trans y1
                  have z2 := (hK3.cell (a := ⟨wr.heap.size, 2, none⟩) haz (fun h => h (.inr rfl))).trans y2
                  have z4 := (hK3.cell (a := ⟨wr.heap.size, 4, none⟩) haz (fun h => h (.inr rfl))).trans y4
                  have hX3 := fun z hz => Nat.lt_of_lt_of_le (HX2.out z hz) hK3.size
                  have HX3 := Lib.hid hX3
                  have HT3 := Lib.hid hT3
                  have HB3 := Lib.hid (HB2'.out.trans (below_not hK3 HB2'.out.size (fun z hz => .inl hz)))
                  clear hT3 hK3 hX3 y1 y2 y4
                  go_wp2_with fail
                  refine (rSend _ _ HX3.out p q _ s HT3.out l[k].frm l[k].to l[k].txt (by unfold maxLen; omega) (by omega) (by omega) HT3.out.ok).mono ?_
                  rintro e w4 ⟨rfl, hT4, hK4⟩
                  have HT4 := Lib.hid hT4
                  have HB4 := Lib.hid (HB3.out.trans (below_not hK4 HB3.out.size (fun z hz => .inl hz)))
                  clear hT4 hK4
                  go_wp2_with fail
                  go_meet
                  obtain ⟨b1, b2, _⟩ := send_bound s l[k].frm l[k].to l[k].txt
                  exact ⟨_, by omega, by omega, HT4.out, HB4.out⟩
              · as_aux_lemma =>
                  clear hr7
                  go_wp2_with fail
                  refine (nTake _ _ HX2.out p q s s HT2.out x hx64).mono ?_
                  rintro e w3 ⟨rfl, hT3, hK3⟩
                  obtain ⟨tx, tb, htr⟩ : ∃ tx tb, s.takeR x = (tx, tb) := ⟨_, _, rfl⟩
                  rw [htr]
                  have HB3 := Lib.hid (HB2'.out.trans (below_not hK3 HB2'.out.size (fun z hz => .inl hz)))
                  have ha3 : wr.heap.size < w3.heap.size := Nat.lt_of_lt_of_le haz hK3.size
                  have hW4 : Below w3.heap.size w3 (w3.alloc (pkO tx)) := (Below.refl _ w3).alloc (Nat.le_refl _) _
                  have hblk := heap_alloc_new w3 (pkO tx)
                  have hz4 : (w3.alloc (pkO tx)).heap.size = w3.heap.size + 1 := World.size_alloc _ _
                  have hT4 := (hT3.more (X' := fun z => (z < w.heap.size ∨ z = wr.heap.size) ∨ z = w3.heap.size) (fun z hz => hz.imp id (fun e => by omega))).fresh hW4
                  have HT4 := Lib.hid hT4
                  have HBL := Lib.hid hblk
                  have HB4 := Lib.hid (HB3.out.trans (hW4.mono HB3.out.size))
                  have HZ4 := Lib.hid hz4
                  have HX4 : Hid (∀ z, ((z < w.heap.size ∨ z = wr.heap.size) ∨ z = w3.heap.size) → z < (w3.alloc (pkO tx)).heap.size) := Lib.hid (fun z hz => by have := HX2.out z; have := hK3.size; omega)
                  have H3 := Lib.hid ha3
                  clear hT3 hK3 hW4 hblk hz4 hT4 y1 y2 y4 ha3
                  go_wp2_with fail
                  refine (rTake _ _ HX4.out p q _ s HT4.out x).mono ?_
                  rintro e w5 ⟨rfl, hT5, hK5⟩
                  rw [htr]
                  have HT5 := Lib.hid hT5
                  have HB5 := Lib.hid (HB4.out.trans (below_not hK5 HB4.out.size (fun z hz => .inl (.inl hz))))
                  have z0 : w5.cell? ⟨w3.heap.size, 0, none⟩ = some (.int .i64 tx.no) := (hK5.cell (a := ⟨w3.heap.size, 0, none⟩) (by rw [HZ4.out]; exact Nat.lt_succ_self _) (fun h => h (.inr rfl))).trans (cell_of_row _ _ 0 _ _ _ HBL.out)
                  have z1 : w5.cell? ⟨w3.heap.size, 1, none⟩ = some (.int .i64 tx.frm) := (hK5.cell (a := ⟨w3.heap.size, 1, none⟩) (by rw [HZ4.out]; exact Nat.lt_succ_self _) (fun h => h (.inr rfl))).trans (cell_of_row _ _ 1 _ _ _ HBL.out)
                  have z2 : w5.cell? ⟨w3.heap.size, 2, none⟩ = some (.int .i64 tx.to) := (hK5.cell (a := ⟨w3.heap.size, 2, none⟩) (by rw [HZ4.out]; exact Nat.lt_succ_self _) (fun h => h (.inr rfl))).trans (cell_of_row _ _ 2 _ _ _ HBL.out)
                  have z3 : w5.cell? ⟨w3.heap.size, 3, none⟩ = some (.string tx.txt) := (hK5.cell (a := ⟨w3.heap.size, 3, none⟩) (by rw [HZ4.out]; exact Nat.lt_succ_self _) (fun h => h (.inr rfl))).trans (cell_of_row _ _ 3 _ _ _ HBL.out)
                  have hz5 : w3.heap.size < w5.heap.size := Nat.lt_of_lt_of_le (by rw [HZ4.out]; exact Nat.lt_succ_self _) hK5.size
                  clear hT5 hK5 HBL HX4 HT4 htr
                  go_wp2_with fail
                  refine (same_self _ tx).mono ?_
                  rintro e w6 ⟨rfl, hB6⟩
                  have hB5a : Below w5.heap.size w5 w6 := ((Below.refl _ w5).alloc (Nat.le_refl _) _).trans (hB6.mono (by simp))
                  have HB6 := Lib.hid (HB5.out.trans (hB5a.mono HB5.out.size))
                  have HT6 := Lib.hid ((HT5.out.more (X' := fun z => z < w.heap.size ∨ z = wr.heap.size) (fun z hz => .inl (.inl hz))).fresh hB5a)
                  clear hB5a hB6
                  cases tb
                  · go_wp2_with fail
                    go_meet
                    exact ⟨_, by show s.last ≤ _; omega, by show s.lost ≤ _; omega, HT6.out, HB6.out⟩
                  · go_wp2_with fail
                    go_meet
                    exact ⟨_, by show s.last ≤ _; omega, by show s.lost ≤ _; omega, HT6.out, HB6.out⟩
              · as_aux_lemma =>
                  clear hr7
                  go_wp2_with fail
                  refine (nTake _ _ HX2.out p q s s HT2.out x hx64).mono ?_
                  rintro e w3 ⟨rfl, hT3, hK3⟩
                  obtain ⟨tx, tb, htr⟩ : ∃ tx tb, s.takeR x = (tx, tb) := ⟨_, _, rfl⟩
                  rw [htr]
                  have HB3 := Lib.hid (HB2'.out.trans (below_not hK3 HB2'.out.size (fun z hz => .inl hz)))
                  have ha3 : wr.heap.size < w3.heap.size := Nat.lt_of_lt_of_le haz hK3.size
                  have hW4 : Below w3.heap.size w3 (w3.alloc (pkO tx)) := (Below.refl _ w3).alloc (Nat.le_refl _) _
                  have hblk := heap_alloc_new w3 (pkO tx)
                  have hz4 : (w3.alloc (pkO tx)).heap.size = w3.heap.size + 1 := World.size_alloc _ _
                  have hT4 := (hT3.more (X' := fun z => (z < w.heap.size ∨ z = wr.heap.size) ∨ z = w3.heap.size) (fun z hz => hz.imp id (fun e => by omega))).fresh hW4
                  have HT4 := Lib.hid hT4
                  have HBL := Lib.hid hblk
                  have HB4 := Lib.hid (HB3.out.trans (hW4.mono HB3.out.size))
                  have HZ4 := Lib.hid hz4
                  have HX4 : Hid (∀ z, ((z < w.heap.size ∨ z = wr.heap.size) ∨ z = w3.heap.size) → z < (w3.alloc (pkO tx)).heap.size) := Lib.hid (fun z hz => by have := HX2.out z; have := hK3.size; omega)
                  have H3 := Lib.hid ha3
                  clear hT3 hK3 hW4 hblk hz4 hT4 y1 y2 y4 ha3
                  go_wp2_with fail
                  refine (rTake _ _ HX4.out p q _ s HT4.out x).mono ?_
                  rintro e w5 ⟨rfl, hT5, hK5⟩
                  rw [htr]
                  have HT5 := Lib.hid hT5
                  have HB5 := Lib.hid (HB4.out.trans (below_not hK5 HB4.out.size (fun z hz => .inl (.inl hz))))
                  have z0 : w5.cell? ⟨w3.heap.size, 0, none⟩ = some (.int .i64 tx.no) := (hK5.cell (a := ⟨w3.heap.size, 0, none⟩) (by rw [HZ4.out]; exact Nat.lt_succ_self _) (fun h => h (.inr rfl))).trans (cell_of_row _ _ 0 _ _ _ HBL.out)
                  have z1 : w5.cell? ⟨w3.heap.size, 1, none⟩ = some (.int .i64 tx.frm) := (hK5.cell (a := ⟨w3.heap.size, 1, none⟩) (by rw [HZ4.out]; exact Nat.lt_succ_self _) (fun h => h (.inr rfl))).trans (cell_of_row _ _ 1 _ _ _ HBL.out)
                  have z2 : w5.cell? ⟨w3.heap.size, 2, none⟩ = some (.int .i64 tx.to) := (hK5.cell (a := ⟨w3.heap.size, 2, none⟩) (by rw [HZ4.out]; exact Nat.lt_succ_self _) (fun h => h (.inr rfl))).trans (cell_of_row _ _ 2 _ _ _ HBL.out)
                  have z3 : w5.cell? ⟨w3.heap.size, 3, none⟩ = some (.string tx.txt) := (hK5.cell (a := ⟨w3.heap.size, 3, none⟩) (by rw [HZ4.out]; exact Nat.lt_succ_self _) (fun h => h (.inr rfl))).trans (cell_of_row _ _ 3 _ _ _ HBL.out)
                  have hz5 : w3.heap.size < w5.heap.size := Nat.lt_of_lt_of_le (by rw [HZ4.out]; exact Nat.lt_succ_self _) hK5.size
                  clear hT5 hK5 HBL HX4 HT4 htr
                  go_wp2_with fail
                  refine (same_self _ tx).mono ?_
                  rintro e w6 ⟨rfl, hB6⟩
                  have hB5a : Below w5.heap.size w5 w6 := ((Below.refl _ w5).alloc (Nat.le_refl _) _).trans (hB6.mono (by simp))
                  have HB6 := Lib.hid (HB5.out.trans (hB5a.mono HB5.out.size))
                  have HT6 := Lib.hid ((HT5.out.more (X' := fun z => z < w.heap.size ∨ z = wr.heap.size) (fun z hz => .inl (.inl hz))).fresh hB5a)
                  clear hB5a hB6
                  cases tb
                  · go_wp2_with fail
                    go_meet
                    exact ⟨_, by show s.last ≤ _; omega, by show s.lost ≤ _; omega, HT6.out, HB6.out⟩
                  · go_wp2_with fail
                    go_meet
                    exact ⟨_, by show s.last ≤ _; omega, by show s.lost ≤ _; omega, HT6.out, HB6.out⟩
              · as_aux_lemma =>
                  clear hr7
                  go_wp2_with fail
                  refine (nCopy _ _ HX2.out p q s s HT2.out x hx64 (by omega) (by omega)).mono ?_
                  rintro e w3 ⟨rfl, hT3, hK3⟩
                  have hX3 := fun z hz => Nat.lt_of_lt_of_le (HX2.out z hz) hK3.size
                  have HX3 := Lib.hid hX3
                  have HT3 := Lib.hid hT3
                  have HB3 := Lib.hid (HB2'.out.trans (below_not hK3 HB2'.out.size (fun z hz => .inl hz)))
                  clear hT3 hK3 hX3 y1 y2 y4
                  go_wp2_with fail
                  refine (rCopy _ _ HX3.out p q _ s HT3.out x (by omega) (by omega) HT3.out.ok).mono ?_
                  rintro e w4 ⟨rfl, hT4, hK4⟩
                  have HT4 := Lib.hid hT4
                  have HB4 := Lib.hid (HB3.out.trans (below_not hK4 HB3.out.size (fun z hz => .inl hz)))
                  clear hT4 hK4
                  go_wp2_with fail
                  go_meet
                  obtain ⟨b1, b2, _⟩ := copy_bound s x
                  exact ⟨_, by omega, by omega, HT4.out, HB4.out⟩
              · as_aux_lemma =>
                  clear hr7
                  go_upto_region 36 with (fail)
                  have hWd : Below W2.heap.size W2 W2.drew := ⟨rfl, rfl, rfl, Nat.le_refl _, fun _ _ => rfl⟩
                  have hb255 : (0 : Int) ≤ l[k].to % 256 ∧ l[k].to % 256 ≤ 255 := ⟨Int.emod_nonneg _ (by decide), by omega⟩
                  obtain ⟨st, sb, hst⟩ : ∃ st sb, s.turnR x l[k].frm (l[k].to % 256) = (st, sb) := ⟨_, _, rfl⟩
                  obtain ⟨t1, t2, _⟩ := turn_bound s x l[k].frm (l[k].to % 256)
                  have hn := fun (wz : World) (t : Nt) hX h => nTurn wz (fun z => z < w.heap.size ∨ z = wr.heap.size) hX p q s t h x hx64 l[k].frm (l[k].to % 256) hb255
                  have hm := fun (wz : World) (t : Nt) hX h => rTurn wz (fun z => z < w.heap.size ∨ z = wr.heap.size) hX p q t s h x l[k].frm (l[k].to % 256) hb255
                  rw [hst] at hn hm t1 t2
                  have HN := Lib.hid hn
                  have HM := Lib.hid hm
                  clear hn hm hst hb255
                  have hTd := HT2.out.fresh hWd
                  have hBd := HB2'.out.trans (hWd.mono HB2'.out.size)
                  have hXd : ∀ z, (z < w.heap.size ∨ z = wr.heap.size) → z < W2.drew.heap.size := HX2.out
                  have y1 : W2.drew.cell? ⟨wr.heap.size, 1, none⟩ = some (.int .i64 l[k].frm) := y1
                  have y2 : W2.drew.cell? ⟨wr.heap.size, 2, none⟩ = some (.int .i64 l[k].to) := y2
                  have haz : wr.heap.size < W2.drew.heap.size := haz
                  clear y4
                  go_region_held3 (fun x => x.cell? ⟨wr.heap.size, 1, none⟩ = some (.int .i64 l[k].frm) ∧ x.cell? ⟨wr.heap.size, 2, none⟩ = some (.int .i64 l[k].to))
                    (first | exact ⟨by assumption, by assumption⟩ | go_keep)
                    (first
                      | (go_at_call 10
                         refine (HN.out _ _ hXd hTd).mono ?_
                         rintro e w3 ⟨rfl, hT3, hK3⟩
                         have y13 := (hK3.cell (a := ⟨wr.heap.size, 1, none⟩) haz (fun h => h (.inr rfl))).trans y1
                         have y23 := (hK3.cell (a := ⟨wr.heap.size, 2, none⟩) haz (fun h => h (.inr rfl))).trans y2
                         have hX3 := fun z hz => Nat.lt_of_lt_of_le (hXd z hz) hK3.size
                         have hB3 := hBd.trans (below_not hK3 hBd.size (fun z hz => .inl hz))
                         have haz3 : wr.heap.size < w3.heap.size := Nat.lt_of_lt_of_le haz hK3.size)
                      | (go_at_call 23
                         refine (HM.out _ _ hX3 hT3).mono ?_
                         rintro e w4 ⟨rfl, hT4, hK4⟩
                         have y14 := (hK4.cell (a := ⟨wr.heap.size, 1, none⟩) haz3 (fun h => h (.inr rfl))).trans y13
                         have y24 := (hK4.cell (a := ⟨wr.heap.size, 2, none⟩) haz3 (fun h => h (.inr rfl))).trans y23
                         have hB4 := hB3.trans (below_not hK4 hB3.size (fun z hz => .inl hz))))
                  all_goals cases sb
                  all_goals go_wp2_with fail
                  all_goals go_meet
                  all_goals exact ⟨_, by show st.last ≤ _; omega, by show st.lost ≤ _; omega, hT4, hB4⟩
            case rest =>
              as_aux_lemma =>
                obtain ⟨s', hlast', hlost', hT', hB'⟩ := hcut
                have hlen' : s'.L.length ≤ 1048576 := by have := hT'.ok.len; have := hT'.ok.room2; omega
                have hlast2 : 0 ≤ s'.last := hT'.ok.last0
                have hlost2 : 0 ≤ s'.lost := hT'.ok.lost0
                have HT' := Lib.hid hT'
                have HB' := Lib.hid hB'
                clear hT' hB' y1 y2 y4
                go_wp2_with fail
                refine (nAll _ _ p q s' s' HT'.out (by omega)).mono ?_
                rintro e w5 ⟨v5, rfl, hB5, hS5⟩
                obtain ⟨A5, c5, rfl, hc1, hc2⟩ := hS5.shape
                unfold maxLen at hc2
                have HS5 := Lib.hid hS5
                have HT5 := Lib.hid (HT'.out.fresh hB5)
                have HB5 := Lib.hid (HB'.out.trans (hB5.mono HB'.out.size))
                clear hS5 hB5
                obtain ⟨Ar', cr', d0, d3, dc3, dc4, hdS, hql'⟩ := Two.ref _ _ p q s' s' HT5.out
                unfold maxLen at dc4
                have HDS := Lib.hid hdS
                have hWd : ∀ n, Below w5.heap.size w5 (w5.drewN n) := fun n => ⟨rfl, rfl, rfl, Nat.le_refl _, fun _ _ => rfl⟩
                have hL : Hid (∀ n, Calls Try.prog 14 #[.pointer (some ⟨p, 0, none⟩)] (w5.drewN n) fun e w' => e = .returned (.int .i64 s'.L.length) ∧ w' = w5.drewN n) := Lib.hid fun n => (nLen _ _ p q s' s' (HT5.out.fresh (hWd n))).mono fun _ _ h => ⟨h.1, h.2.symm⟩
                have hO : Hid (∀ n, Calls Try.prog 17 #[.pointer (some ⟨p, 0, none⟩)] (w5.drewN n) fun e w' => e = .returned (.int .i64 s'.lost) ∧ w' = w5.drewN n) := Lib.hid fun n => (nLost _ _ p q s' s' (HT5.out.fresh (hWd n))).mono fun _ _ h => ⟨h.1, h.2.symm⟩
                clear hdS hWd
                go_upto_region 39 with (fail)
                go_quiet (first | (go_at_call 14; refine Calls.quiet_of_same (hL.out _)) | (go_at_call 17; refine Calls.quiet_of_same (hO.out _)))
                clear hL hO d3
                go_wp2_with fail
                go_loopw [27] (fun i wz => PlaysIn w5 s'.L.length i wz) (fun i _ => s'.L.length - (Go.RowKit.intOf i).toNat)
                case atStart => exact ⟨0, Nat.zero_le _, rfl, rfl, rfl, rfl, Nat.le_refl _, fun _ _ => rfl⟩
                case round =>
                  obtain ⟨j, hj, rfl, hBz⟩ := hrel
                  by_cases hjl : j < s'.L.length
                  · obtain ⟨b5, o5, rfl, _, hb5, hx5⟩ := HS5.out.cell_ hjl
                    obtain ⟨bd, od, rfl, _, hbd, hxd⟩ := HDS.out.cell_ hjl
                    have c0 := (hBz.cell (p := ⟨b5, _, none⟩) hb5).trans (hx5 0 _ rfl)
                    have c1 := (hBz.cell (p := ⟨b5, _, none⟩) hb5).trans (hx5 1 _ rfl)
                    have c2 := (hBz.cell (p := ⟨b5, _, none⟩) hb5).trans (hx5 2 _ rfl)
                    have c3 := (hBz.cell (p := ⟨b5, _, none⟩) hb5).trans (hx5 3 _ rfl)
                    have f0 := (hBz.cell (p := ⟨bd, _, none⟩) hbd).trans (hxd 0 _ rfl)
                    have f1 := (hBz.cell (p := ⟨bd, _, none⟩) hbd).trans (hxd 1 _ rfl)
                    have f2 := (hBz.cell (p := ⟨bd, _, none⟩) hbd).trans (hxd 2 _ rfl)
                    have f3 := (hBz.cell (p := ⟨bd, _, none⟩) hbd).trans (hxd 3 _ rfl)
                    have g0 := (hBz.cell (p := ⟨q, 0, none⟩) hql').trans d0
                    simp only [Nat.add_zero] at c0 f0
                    have HBz := Lib.hid hBz
                    clear hx5 hxd hBz d0
                    go_upto_region 44 with (fail)
                    refine region_mid 11 rfl (by kernel_rfl) (by kernel_rfl) ?_
                    simp only [List.take_succ_cons, List.take_zero, List.drop_succ_cons, List.drop_zero]
                    repeat still_step
                    refine wpStill_nil ?_
                    change wpList _ _ _ _ _ wr.drew
                    go_wp2_with fail
                    refine (same_self _ s'.L[j]).mono ?_
                    rintro e w6 ⟨rfl, hB6⟩
                    go_wp2_with fail
                    unfold Go.Bl.Rest
                    repeat still_step
                    refine wpStill_nil ?_
                    go_wp2_with fail
                    go_roundw
                    case rel => exact ⟨j + 1, hjl, by go_num, HBz.out.trans (((show Below wr.heap.size wr wr.drew from ⟨rfl, rfl, rfl, Nat.le_refl _, fun _ _ => rfl⟩).trans hB6).mono HBz.out.size)⟩
                    case measure => simp [Go.RowKit.intOf]; omega
                  · have hjd : j = s'.L.length := by omega
                    subst hjd
                    go_wp2_with fail
                    go_roundw
                    case rel => exact ⟨k + 1, s', hlt, by go_num, hlast', hlost', (HT5.out.fresh hBz).more (fun z hz => .inl (.inl hz)), HB5.out.trans (hBz.mono HB5.out.size)⟩
                    case measure => simp [Go.RowKit.intOf]; omega
      · have hkd : k = l.length := by omega
        subst hkd
        go_wp2_with fail
        go_ret
        exact ⟨rfl, HB.out⟩
  · have hbad : room < 1 ∨ 1048576 < room := by omega
    have HBD := Lib.hid hbad
    clear hbad hroom
    refine (new_bad w0 room HBD.out).mono ?_
    rintro e w1 ⟨rfl, rfl⟩
    go_wp2_with fail
    refine (rnew_bad w0 room HBD.out).mono ?_
    rintro e w1 ⟨rfl, rfl⟩
    go_wp2_with fail
    go_ret
    exact ⟨rfl, HB0.out⟩
end Go.Proofs.Ytnooggfecgidcaa
