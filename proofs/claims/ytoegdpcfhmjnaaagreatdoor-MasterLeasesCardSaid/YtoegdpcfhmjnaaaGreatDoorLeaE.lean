/- MasterLeases answers true. Under the stated premises on sizes. -/
import Derived.Test.YtoegdpcfhmjnaaaGreatDoorLeaD
import Derived.Test.YtoegdpcfhmjnaaaGreatDoorMstN
import Derived.Deep.CutBlock
import Derived.Deep.DeepCutAuto
import Derived.Deep.RegionHeld3
namespace Go.Proofs.YtoegdpcfhmjnaaaGreatDoor
open Go.RowKit Go.Bl
attribute [local go_sem ↓] Go.wp_at_zero Go.wp_at_succ

theorem fldE (ep : Int) (A B C : Option Addr) (n a b c : Nat) (w : World) : (Instr.field 45 (.agg #[.int .i64 ep, .slice A n a, .slice B n b, .slice C n c]) 0).run Tryz.prog w = .ok (.int .i64 ep) w := by kernel_rfl
/-- A round of the law. -/
def LeR (X : Nat → Prop) (w : World) (base g : Nat) (p : Nat) (fail : Int) (n : Nat) (mv nw lv iv : Value) (wr : World) : Prop :=
  ∃ (i m : Nat) (now : Int) (s : Ms) (vs : List Vw) (c : Nat) (l : List (Int × Int)), mv = .pointer (some ⟨m, 0, none⟩) ∧ nw = .int .i64 now ∧ iv = .int .i64 i ∧ i ≤ n ∧ LeK i now s c l ∧ LeIn X w base g p m fail now s vs c lv l wr
/-- Behind an act: what was told. -/
def LeC (X : Nat → Prop) (w : World) (base g wb : Nat) (p : Nat) (fail : Int) (i : Nat) (lv : Value) (l : List (Int × Int)) (mv nw ov : Value) (wx : World) : Prop :=
  ∃ (m : Nat) (now : Int) (s : Ms) (vs : List Vw) (c : Nat) (os : List OutE), mv = .pointer (some ⟨m, 0, none⟩) ∧ nw = .int .i64 now ∧ 0 ≤ now ∧ now ≤ (i + 1) * 4294967296 ∧ c ≤ 6 + 2 * (i + 1) ∧ s.v.ep ≤ 1 + 6 * (i + 1) ∧
    LeIn X w base g p m fail now s vs c lv l wx ∧ wb ≤ wx.heap.size ∧ Sl wx (fun k => wb ≤ k) 2 outc ov os ∧ (∀ o ∈ os, OutP fail now s o) ∧ (os.flatMap newL).length ≤ 10
theorem as_lease (v : Value) (xT : TypeId) (w : World) : (Instr.typeAssert (.iface 64 v) xT 64 true).run Tryz.prog w = .ok (.tuple #[v, .bool true]) w := by
  simp [Instr.typeAssert, run_underlying Tryz.underlying64]
theorem not_leaseL (T : TypeId) (hT : T ≠ 64) (v : Value) (xT : TypeId) (w : World) : (Instr.typeAssert (.iface T v) xT 64 true).run Tryz.prog w = .ok (.tuple #[.agg #[.int .i64 0, .int .i64 0], .bool false]) w := by
  simp [Instr.typeAssert, run_underlying Tryz.underlying64, hT]
/-- Amid the loop over what was told. -/
def LeO (wz : World) (base : Nat) (lv0 : Value) (l : List (Int × Int)) (os : List OutE) (lv kv : Value) (wy : World) : Prop :=
  ∃ k : Nat, kv = .int .i64 k ∧ k ≤ os.length ∧ Go.Bl.Own wy base 67 2 lec lv (l ++ (os.take k).flatMap newL) ∧ Keeps (fun b => lv0.ownBlock = some b) wz wy ∧ (∀ b, lv.ownBlock = some b → lv0.ownBlock = some b ∨ wz.heap.size ≤ b)
theorem out_at {w : World} {F : Nat → Prop} {A : Option Addr} {n c : Nat} {os : List OutE} (h : Sl w F 2 outc (.slice A n c) os) {k : Nat} (hk : k < os.length) :
    ∃ b o, A = some ⟨b, o, none⟩ ∧ F b ∧ b < w.heap.size ∧ w.cell? ⟨b, o + k * 2, none⟩ = some (.int .i64 (os[k]).rcv) ∧ w.cell? ⟨b, o + k * 2 + 1, none⟩ = some (.iface (os[k]).T (os[k]).pay) := by
  obtain ⟨b, o, rfl, h1, h2, hxx⟩ := h.cell_ hk
  exact ⟨b, o, rfl, h1, h2, hxx 0 _ rfl, hxx 1 _ rfl⟩
set_option maxRecDepth 20000 in
set_option maxHeartbeats 8000000 in
theorem leases_law {F : Nat → Prop} (w : World) (hT : Tabs w) (fv : Value) (first : List Int) (hf : Sl w F 1 intc fv first) (fail : Int) (av : Value) (acts : List Ac) (ha : Acts w (fun k => k < w.heap.size) av acts) :
    Calls Tryz.prog 4 #[fv, .int .i64 fail, av] w fun e w' => e = .returned (.bool true) ∧ Below w.heap.size w w' := by
  obtain ⟨fA, fc, rfl, hfa, hfb⟩ := hf.shape_ (n := first.length) rfl
  obtain ⟨aA, ac, rfl, haa, hab⟩ := ha.1.shape_ (n := acts.length) rfl
  obtain ⟨n, hn⟩ : ∃ n, first.length = n := ⟨_, rfl⟩
  obtain ⟨na, hna⟩ : ∃ na, acts.length = na := ⟨_, rfl⟩
  rw [hn] at hf hfa ⊢
  rw [hna] at ha haa ⊢
  have HN := Lib.hid hn
  have HNA := Lib.hid hna
  have HF := Lib.hid hf
  have HA := Lib.hid ha
  have HSH := Lib.hid (shown_any hT)
  have HT := Lib.hid hT
  have hfe := fldE
  clear hf hT hn hna ha
  go_enter Tryz.func4, Tryz.ntmps4
  go_wp2_with fail
  refine HSH.out.mono ?_
  rintro e w1 ⟨rfl, hB1⟩
  have hbg := begunQ (HT.out.fresh hB1) 100000 (by omega) (by omega)
  have HBG := Lib.hid hbg
  have HB1 := Lib.hid hB1
  have HSM := Lib.hid (small_any w1 _ _ _ (HA.out.fresh hB1))
  obtain ⟨sm, hsm⟩ : ∃ sm, smallB acts = sm := ⟨_, rfl⟩
  rw [hsm] at HSM
  have HSB := Lib.hid hsm
  clear hbg hB1 hsm
  go_wp2_with fail
  refine HSM.out.mono ?_
  rintro e w1' ⟨rfl, rfl⟩
  go_wp2_with fail
  refine HBG.out.mono ?_
  rintro e w2 ⟨p, pm, rfl, hQ2, hB2⟩
  obtain ⟨X, hX⟩ : ∃ X : Nat → Prop, (fun k => k < w1.heap.size) = X := ⟨_, rfl⟩
  have HX : Hid ((∀ k, k < w.heap.size → X k) ∧ (∀ k, X k → k < w1.heap.size) ∧ w1.heap.size ≤ w2.heap.size) := Lib.hid ⟨fun k hk => by rw [← hX]; exact Nat.lt_of_lt_of_le hk HB1.out.size, fun k hk => by rw [← hX] at hk; exact hk, hB2.size⟩
  rw [hX] at hQ2
  have HQ2 := Lib.hid hQ2
  have HB2 := Lib.hid (HB1.out.trans (hB2.mono HB1.out.size))
  clear hQ2 hB2 hX
  cases sm
  · go_wp2_with fail
    go_ret
    exact ⟨rfl, HB2.out.alloc HB2.out.size _⟩
  by_cases hl : 20 < n
  · have d1 : decide ((20 : Int) < (n : Int)) = true := decide_eq_true (by omega)
    go_wp2_with fail
    go_ret
    exact ⟨rfl, HB2.out.alloc HB2.out.size _⟩
  have d1 : decide ((20 : Int) < (n : Int)) = false := decide_eq_false (by omega)
  go_upto_region 6 with (fail)
  have hk3 := heap_alloc_new w2 (.cells #[.pointer (some ⟨p, 0, none⟩), .pointer (some ⟨pm, 0, none⟩)] 27)
  have hb3 : Below w2.heap.size w2 (w2.alloc (.cells #[.pointer (some ⟨p, 0, none⟩), .pointer (some ⟨pm, 0, none⟩)] 27)) := (Below.refl _ w2).alloc (Nat.le_refl _) _
  obtain ⟨g, hg⟩ : ∃ g, w2.heap.size = g := ⟨_, rfl⟩
  rw [hg] at hk3 ⊢
  have HSZ3 : Hid ((w2.alloc (.cells #[.pointer (some ⟨p, 0, none⟩), .pointer (some ⟨pm, 0, none⟩)] 27)).heap.size = g + 1 ∧ w1.heap.size ≤ g) := Lib.hid ⟨by rw [World.size_alloc, hg], hg ▸ HX.out.2.2⟩
  generalize w2.alloc (.cells #[.pointer (some ⟨p, 0, none⟩), .pointer (some ⟨pm, 0, none⟩)] 27) = w3 at hk3 hb3 HSZ3 ⊢
  have HK3 := Lib.hid hk3
  have k0 : w3.cell? ⟨g, 0, none⟩ = some (.pointer (some ⟨p, 0, none⟩)) := cell_of_row w3 g 0 _ _ _ hk3
  have HB3 := Lib.hid (HB2.out.trans (hb3.mono HB2.out.size))
  -- the pair's block is kept too
  obtain ⟨X', hX'⟩ : ∃ X' : Nat → Prop, (fun k => X k ∨ k = g) = X' := ⟨_, rfl⟩
  have HX' : Hid ((∀ k, k < w.heap.size → X' k) ∧ (∀ k, X' k → k ≤ g) ∧ X' g ∧ (∀ k, k < 2 → X' k)) := Lib.hid ⟨fun k hk => hX' ▸ .inl (HX.out.1 k hk), fun k hk => by rw [← hX'] at hk; rcases hk with h | h; have := HX.out.2.1 k h; have := HSZ3.out.2; omega; omega, hX' ▸ .inr rfl, fun k hk => hX' ▸ .inl (HQ2.out.low k hk)⟩
  have hQ3 : Qd X' w3 p ⟨100000, []⟩ := hX' ▸ HQ2.out.more hb3 (fun k hk => hk.imp id fun e => by omega) (fun k hk => hk.elim (fun h => by have := HX.out.2.1 k h; have := HSZ3.out; omega) (fun e => by have := HSZ3.out.1; omega)) (fun k hk => .inl (HQ2.out.low k hk))
  have hon := open_new hQ3 (.slice fA n fc) first (HF.out.fresh HB3.out) (by rw [HN.out]; omega) fail 0 (by omega) (by omega)
  have HON := Lib.hid hon
  clear hk3 hb3 hg hon hX' hQ3
  go_wp2_with fail
  refine HON.out.mono ?_
  rintro e w4 hO
  by_cases hc : 4 ≤ fail ∧ fail ≤ 1073741824 ∧ RightV (v0 first)
  · obtain ⟨m0, rfl, hM, hK⟩ := hO.1 hc
    obtain ⟨hf4, hf5, hrv⟩ := hc
    have HM := Lib.hid hM
    have HB4 := Lib.hid (HB3.out.trans (Kx.below hK HX'.out.1 HB3.out.size))
    have HK4 := Lib.hid ((hK.block g (by have := HSZ3.out.1; omega) (fun h => h HX'.out.2.2.1)).trans HK3.out)
    have HG4 := Lib.hid (show g < w4.heap.size from (Array.getElem?_eq_some_iff.1 HK4.out).1)
    have hsm := HSB.out
    simp only [smallB, Bool.and_eq_true, decide_eq_true_eq] at hsm
    have h80 : na ≤ 80 := HNA.out ▸ hsm.1
    have HR0 : Hid (LeR X' w w4.heap.size g p fail na (.pointer (some ⟨m0, 0, none⟩)) (.int .i64 0) (.slice none 0 0) (.int .i64 0) w4) := Lib.hid ⟨0, m0, 0, _, _, _, [], rfl, rfl, rfl, Nat.zero_le _, ⟨by omega, by omega, by omega, by show (1 : Int) ≤ _; omega, by simp⟩,
      { mst := HM.out.less (fun k hk => hk.elim id (fun e => by cases e)) (fun k hk => .inl (HX'.out.2.2.2 k hk))
        own := Go.Bl.Own.nil_ _ _ _ _ _
        heard := fun k _ => ⟨Int.le_refl _, Int.le_refl _⟩
        leases := fun p hp => by cases hp
        below := HB4.out
        sz := Nat.le_refl _
        pair := cell_of_row w4 g 0 _ _ _ HK4.out }⟩
    clear hO hM hK hrv hsm k0
    go_wp2_with fail
    go_loopw [13, 11, 14, 15] (fun nw mv lv iv wr => LeR X' w w4.heap.size g p fail na mv nw lv iv wr) (fun _ _ _ iv _ => na - (intOf iv).toNat)
    case atStart => exact HR0.out
    case round =>
      obtain ⟨i, m, now, s, vs, c, l, rfl, rfl, rfl, hin, hkk, hle⟩ := hrel
      obtain ⟨k0, k1, k2, k3, k4⟩ := hkk
      have HLE := Lib.hid hle
      clear hle
      obtain ⟨LA, LC, rfl, hla, hlb⟩ := HLE.out.own.shape_ (n := l.length) rfl
      obtain ⟨LN, hLN⟩ : ∃ LN, l.length = LN := ⟨_, rfl⟩
      rw [hLN] at k4 hla HLE ⊢
      have HLN := Lib.hid hLN
      clear hLN
      by_cases hlt : i < na
      · have e0 : decide ((i : Int) < (na : Int)) = true := decide_eq_true (by omega)
        have hia : i < acts.length := by rw [HNA.out]; exact hlt
        have hAr := HA.out.keep (Keeps.of_below HLE.out.below) (fun k _ h1 h2 => by have h3 : k < w.heap.size := h1; have h4 : w.heap.size ≤ k := h2; omega)
        obtain ⟨ab, ao, rfl, _, hab2, hxx⟩ := hAr.1.cell_ hia
        have hac := hAr.2 acts[i] (List.getElem_mem hia)
        obtain ⟨a, hae⟩ : ∃ a, acts[i] = a := ⟨_, rfl⟩
        rw [hae] at hxx hac
        have x0 := hxx 0 _ rfl
        rw [Nat.add_zero] at x0
        have x1 := hxx 1 _ rfl
        have x2 := hxx 2 _ rfl
        have x3 := hxx 3 _ rfl
        have x4 := hxx 4 _ rfl
        have x5 := hxx 5 _ rfl
        have x6 := hxx 6 _ rfl
        obtain ⟨KA, kc, hkv, _, _⟩ := hac.sl.shape_ (n := a.keep.length) rfl
        rw [hkv] at x6
        have HAC := Lib.hid hac
        have HKV := Lib.hid hkv
        have hi0 : (0 : Int) ≤ (i : Int) := Int.natCast_nonneg _
        have hi1 : (i : Int) < (na : Int) := by omega
        clear hxx hac hAr hae hkv
        go_upto_region 16 with (fail)
        have hal : Below wr.heap.size wr (wr.alloc (.cells #[.int .i64 a.op, .int .i64 a.frm, .int .i64 a.node, .int .i64 a.ep, .int .i64 a.n, .string a.text, .slice KA a.keep.length kc] 57)) := (Below.refl _ wr).alloc (Nat.le_refl _) _
        have hkb := heap_alloc_new wr (.cells #[.int .i64 a.op, .int .i64 a.frm, .int .i64 a.node, .int .i64 a.ep, .int .i64 a.n, .string a.text, .slice KA a.keep.length kc] 57)
        obtain ⟨q, hq⟩ : ∃ q, wr.heap.size = q := ⟨_, rfl⟩
        rw [hq] at hkb ⊢
        generalize wr.alloc (.cells #[.int .i64 a.op, .int .i64 a.frm, .int .i64 a.node, .int .i64 a.ep, .int .i64 a.n, .string a.text, .slice KA a.keep.length kc] 57) = w5 at hal hkb ⊢
        have y0 := cell_of_row w5 q 0 _ _ _ hkb
        have HKB := Lib.hid hkb
        have HAL := Lib.hid hal
        have hM5 := HLE.out.mst.fresh hal
        have hO5 := HLE.out.own.fresh hal
        have hB5 := HLE.out.below.trans (hal.mono HLE.out.below.size)
        have HL5 : Hid (LeIn X' w w4.heap.size g p m fail now s vs c (.slice LA LN LC) l w5) := Lib.hid ⟨hM5, hO5, HLE.out.heard, HLE.out.leases, hB5, Nat.le_trans HLE.out.sz hal.size, (hal.cell (p := ⟨g, 0, none⟩) (World.block_lt_of_cell? _ _ HLE.out.pair)).trans HLE.out.pair⟩
        have HAC5 := Lib.hid (HAC.out.keep (Keeps.of_fresh hal fun _ => False) (fun _ _ _ => id))
        have hpo := pickOf_range a.op (n := 10) (by omega)
        have HPO := Lib.hid (fun W => pickB_any W a.op 10 HAC.out.op (by omega))
        obtain ⟨P, hP⟩ : ∃ P, pickOf a.op 10 = P := ⟨_, rfl⟩
        simp only [hP] at HPO hpo
        have HP := Lib.hid hP
        clear hal hkb hM5 hO5 hB5 hP x0 x1 x2 x3 x4 x5 x6
        go_wp2_with fail
        refine (HPO.out w5).mono ?_
        rintro e wp ⟨rfl, rfl⟩
        by_cases h8 : 8 ≤ P
        · have hw1 : IntKind.i64.wrap ((i : Int) + 1) = (i : Int) + 1 := IntWalk.i64_in _ (by omega)
          have hc2 : P = 8 ∨ P = 9 := by omega
          rcases hc2 with rfl | rfl
          · go_wp2_with fail
            go_roundw
            case rel => exact ⟨i + 1, m, now, s, vs, c, l, rfl, rfl, by go_num, hlt, ⟨k0, by omega, by omega, by omega, by have := HLN.out; omega⟩, HL5.out⟩
            case measure => simp [intOf]; omega
          · go_wp2_with fail
            go_roundw
            case rel => exact ⟨i + 1, m, now, s, vs, c, l, rfl, rfl, by go_num, hlt, ⟨k0, by omega, by omega, by omega, by have := HLN.out; omega⟩, HL5.out⟩
            case measure => simp [intOf]; omega
        go_upto_block 2 with (fail)
        go_cut [11, 13, 17] (fun mv nw ov wx => LeC X' w w4.heap.size g w5.heap.size p fail i (.slice LA LN LC) l mv nw ov wx)
        case first =>
          have hc2 : P = 6 ∨ P = 7 ∨ P < 6 := by omega
          rcases hc2 with rfl | rfl | hP6
          · as_aux_lemma =>
              have y4 := cell_of_row w5 q 4 _ _ _ HKB.out
              have hpd := pickOf_range a.n (n := 2 * fail) (by omega)
              have HPD := Lib.hid (fun W => pickB_any W a.n (2 * fail) HAC.out.n (by omega))
              obtain ⟨D, hD⟩ : ∃ D, pickOf a.n (2 * fail) = D := ⟨_, rfl⟩
              simp only [hD] at HPD hpd
              have hw2 : IntKind.i64.wrap (2 * fail) = 2 * fail := IntWalk.i64_in _ (by omega)
              have hw3 : IntKind.i64.wrap (now + D) = now + D := IntWalk.i64_in _ (by omega)
              have hn6 := HL5.out.mst.right.n2
              have HTK := Lib.hid (tick_any HL5.out.mst (now + D) (HL5.out.heard.mono (by omega)) (by omega) (by omega) (.inl (by omega)))
              have HTT := Lib.hid (tick_tk fail (now + D) s.v.L.length s)
              have hTE := tickF_ep fail (now + D) s.v.L.length s
              have HTE : Hid ((s.tickF fail (now + D) s.v.L.length).v.ep ≤ 1 + 6 * (i + 1)) := Lib.hid (by omega)
              obtain ⟨s2, hs2⟩ : ∃ s2, s.tickF fail (now + D) s.v.L.length = s2 := ⟨_, rfl⟩
              rw [hs2] at HTK HTT HTE
              clear hD hs2 hTE
              go_wp2_with fail
              refine (HPD.out w5).mono ?_
              rintro e wp ⟨rfl, rfl⟩
              go_wp2_with fail
              refine HTK.out.mono ?_
              rintro e w6 ⟨v6, os, vs', rfl, hS, hT, hM, hK⟩
              have HE := Lib.hid (And.intro hS (And.intro hT (And.intro hM hK)))
              clear hS hT hM hK
              go_wp2_with fail
              go_meet
              obtain ⟨hS, hT, hM, hK⟩ := HE.out
              refine ⟨m, now + D, s2, vs', c, os, rfl, rfl, by omega, by omega, by omega, HTE.out, ⟨hM, HL5.out.own.keep hK (fun b hb h => h (.inr hb)), HTT.out.heard (HL5.out.heard.mono (by omega)), HTT.out.leases l (by omega) (HL5.out.leases.mono (by omega)), HL5.out.below.trans (Kx.below hK (fun k hk => .inl (HX'.out.1 k hk)) HL5.out.below.size), Nat.le_trans HL5.out.sz hK.size, (hK.cell (a := ⟨g, 0, none⟩) (World.block_lt_of_cell? _ _ HL5.out.pair) (fun h => h (.inl HX'.out.2.2.1))).trans HL5.out.pair⟩, hK.size, hS, fun o ho => .inl (by rw [hT o ho]; decide), ?_⟩
              rw [newLs_none fun o ho => by rw [hT o ho]; decide]
              simp
          · as_aux_lemma =>
              have y6 := cell_of_row w5 q 6 _ _ _ HKB.out
              have g0 := HL5.out.pair
              obtain ⟨hqd, hqu, hqn, hql, hqs⟩ := HL5.out.mst.disk
              have hks := HAC5.out.sl.mono (F' := fun k => X' k ∨ (Value.slice LA LN LC).ownBlock = some k) (fun k _ hk => .inl (HX'.out.1 k hk))
              rw [HKV.out] at hks
              have HCR := Lib.hid (crash_kept hqd _ _ hks)
              have HQ := Lib.hid (And.intro hqu (And.intro hqn (And.intro hql hqs)))
              clear hqd hqu hqn hql hqs hks
              go_wp2_with fail
              refine HCR.out.mono ?_
              rintro e w6 ⟨rfl, hQ6, hK6⟩
              have HK6 := Lib.hid hK6
              have HOP := Lib.hid (open_kept hQ6 HQ.out.1 HQ.out.2.1 HQ.out.2.2.1 (.slice fA n fc) fail now hf4 hf5 k0)
              have g0 := (hK6.cell (a := ⟨g, 0, none⟩) (World.block_lt_of_cell? _ _ g0) (fun h => h (.inl HX'.out.2.2.1))).trans g0
              clear hQ6 hK6
              go_wp2_with fail
              refine HOP.out.mono ?_
              rintro e w7 ⟨m', rfl, hM7, hK7⟩
              have HM7 := Lib.hid hM7
              have HK7 := Lib.hid hK7
              clear hM7 hK7
              go_wp2_with fail
              go_meet
              have hK := HK6.out.trans HK7.out
              refine ⟨m', now, _, vs, 6, [], rfl, rfl, k0, by omega, by omega, ?_, ⟨HM7.out, HL5.out.own.keep hK (fun b hb h => h (.inr hb)), Heard.again k0 _, HL5.out.leases.again HL5.out.heard _ HQ.out.2.2.2, HL5.out.below.trans (Kx.below hK (fun k hk => .inl (HX'.out.1 k hk)) HL5.out.below.size), Nat.le_trans HL5.out.sz hK.size, (HK7.out.cell (a := ⟨g, 0, none⟩) (World.block_lt_of_cell? _ _ g0) (fun h => h (.inl HX'.out.2.2.1))).trans g0⟩, hK.size, Sl.nil_ _ _ _ _, (fun o ho => by cases ho), by simp⟩
              show (lastV noV vs).ep ≤ _
              rw [HQ.out.2.2.2]
              omega
          · as_aux_lemma =>
              have y1 := cell_of_row w5 q 1 _ _ _ HKB.out
              have y2 := cell_of_row w5 q 2 _ _ _ HKB.out
              have y3 := cell_of_row w5 q 3 _ _ _ HKB.out
              have y4 := cell_of_row w5 q 4 _ _ _ HKB.out
              have y5 := cell_of_row w5 q 5 _ _ _ HKB.out
              have y6 := cell_of_row w5 q 6 _ _ _ HKB.out
              have e6 : (P == 6) = false := by rw [beq_eq_false_iff_ne]; omega
              have e7 : (P == 7) = false := by rw [beq_eq_false_iff_ne]; omega
              have e8 : (P == 8) = false := by rw [beq_eq_false_iff_ne]; omega
              have e9 : (P == 9) = false := by rw [beq_eq_false_iff_ne]; omega
              have HEB := Lib.hid (show 1 ≤ s.v.ep ∧ s.v.ep ≤ 1000000000000 from ⟨HL5.out.mst.right.ep1, by omega⟩)
              go_upto_region 17 with (fail)
              have HA0 := Lib.hid (show Below w5.heap.size w5 w5.drew from ⟨rfl, rfl, rfl, Nat.le_refl _, fun _ _ => rfl⟩)
              go_region_held3 (fun y => y.cell? ⟨q, 0, none⟩ = some (.int .i64 a.op) ∧ y.cell? ⟨q, 1, none⟩ = some (.int .i64 a.frm) ∧ y.cell? ⟨q, 2, none⟩ = some (.int .i64 a.node) ∧ y.cell? ⟨q, 3, none⟩ = some (.int .i64 a.ep) ∧ y.cell? ⟨q, 4, none⟩ = some (.int .i64 a.n) ∧ y.cell? ⟨q, 5, none⟩ = some (.string a.text) ∧ y.cell? ⟨q, 6, none⟩ = some (.slice KA a.keep.length kc))
                (first | with_reducible exact ⟨m0', m1', m2', m3', m4', m5', m6'⟩ | with_reducible exact ⟨z0, z1, z2, z3, z4, z5, z6⟩ | with_reducible exact ⟨y0, y1, y2, y3, y4, y5, y6⟩ | go_keep)
                (first
                  | (go_at_call 12
                     with_reducible refine (view_any (HL5.out.mst.fresh HA0.out)).mono ?_
                     rintro e wv ⟨a', b', c', rfl, hV, hBv⟩
                     obtain ⟨A7, a7, B7, b7, C7, c7, rfl, rfl, rfl, _⟩ := hV.shape
                     have HAv := Lib.hid (show Below w5.heap.size w5 wv from HA0.out.trans hBv)
                     have z0 := (HAv.out.cell (p := ⟨q, 0, none⟩) (World.block_lt_of_cell? _ _ y0)).trans y0
                     have z1 := (HAv.out.cell (p := ⟨q, 1, none⟩) (World.block_lt_of_cell? _ _ y1)).trans y1
                     have z2 := (HAv.out.cell (p := ⟨q, 2, none⟩) (World.block_lt_of_cell? _ _ y2)).trans y2
                     have z3 := (HAv.out.cell (p := ⟨q, 3, none⟩) (World.block_lt_of_cell? _ _ y3)).trans y3
                     have z4 := (HAv.out.cell (p := ⟨q, 4, none⟩) (World.block_lt_of_cell? _ _ y4)).trans y4
                     have z5 := (HAv.out.cell (p := ⟨q, 5, none⟩) (World.block_lt_of_cell? _ _ y5)).trans y5
                     have z6 := (HAv.out.cell (p := ⟨q, 6, none⟩) (World.block_lt_of_cell? _ _ y6)).trans y6
                     have HSD := Lib.hid (said_any wv _ a (HAC5.out.keep (Keeps.of_fresh HAv.out fun _ => False) (fun _ _ _ => id)) s.v.ep HEB.out (by rw [HP.out]; exact hP6))
                     unfold acc at HSD
                     rw [HKV.out] at HSD
                     clear hV hBv)
                  | (go_at_call 20
                     with_reducible refine HSD.out.mono ?_
                     rintro e ws ⟨xm, kk, nn, rfl, hsx, hBs⟩
                     have HSX := Lib.hid hsx
                     have HAs := Lib.hid (show Below w5.heap.size w5 ws from HAv.out.trans (hBs.mono HAv.out.size))
                     have m0' := (HAs.out.cell (p := ⟨q, 0, none⟩) (World.block_lt_of_cell? _ _ y0)).trans y0
                     have m1' := (HAs.out.cell (p := ⟨q, 1, none⟩) (World.block_lt_of_cell? _ _ y1)).trans y1
                     have m2' := (HAs.out.cell (p := ⟨q, 2, none⟩) (World.block_lt_of_cell? _ _ y2)).trans y2
                     have m3' := (HAs.out.cell (p := ⟨q, 3, none⟩) (World.block_lt_of_cell? _ _ y3)).trans y3
                     have m4' := (HAs.out.cell (p := ⟨q, 4, none⟩) (World.block_lt_of_cell? _ _ y4)).trans y4
                     have m5' := (HAs.out.cell (p := ⟨q, 5, none⟩) (World.block_lt_of_cell? _ _ y5)).trans y5
                     have m6' := (HAs.out.cell (p := ⟨q, 6, none⟩) (World.block_lt_of_cell? _ _ y6)).trans y6
                     clear hsx hBs))
              have HTK := Lib.hid (take_said (HL5.out.mst.fresh HAs.out) (by omega) a xm HSX.out now k0 (by omega) hf4 hf5 (by omega))
              have z1 := m1'
              clear y0 y1 y2 y3 y4 y5 y6 z0 z2 z3 z4 z5 z6 m0' m1' m2' m3' m4' m5' m6'
              go_wp2_with fail
              refine HTK.out.mono ?_
              rintro e w8 ⟨v8, os, s2, vs2, rfl, hS, hO, hol, hst, hM, hK⟩
              have HE := Lib.hid (And.intro hS (And.intro hO (And.intro hol (And.intro hst (And.intro hM hK)))))
              clear hS hO hol hst hM hK
              go_wp2_with fail
              go_meet
              obtain ⟨hS, hO, hol, hst, hM, hK⟩ := HE.out
              have hBs := HL5.out.below.trans (HAs.out.mono HL5.out.below.size)
              have hsz := HAs.out.size
              refine ⟨m, now, s2, vs2, c + 2, os, rfl, rfl, k0, by omega, by omega, by have := hst.ep; omega, ⟨hM, (HL5.out.own.fresh HAs.out).keep hK (fun b hb h => h (.inr hb)), hst.heard HL5.out.heard, hst.leases l HL5.out.heard HL5.out.leases, hBs.trans (Kx.below hK (fun k hk => .inl (HX'.out.1 k hk)) hBs.size), Nat.le_trans (Nat.le_trans HL5.out.sz hsz) hK.size, ?_⟩, Nat.le_trans hsz hK.size, hS.mono (fun k _ hk => Nat.le_trans hsz hk), hO, Nat.le_trans (newLs_len os) hol⟩
              have g1 := (HAs.out.cell (p := ⟨g, 0, none⟩) (World.block_lt_of_cell? _ _ HL5.out.pair)).trans HL5.out.pair
              exact (hK.cell (a := ⟨g, 0, none⟩) (World.block_lt_of_cell? _ _ g1) (fun h => h (.inl HX'.out.2.2.1))).trans g1
        case rest =>
          obtain ⟨m2, now2, s2, vs2, c2, os, rfl, rfl, n0, n1, c3, e3, hLE, hwb, hS, hO, hol⟩ := hcut
          have HO5 := Lib.hid (fun b (e : (Value.slice LA LN LC).ownBlock = some b) => HL5.out.own.lt b e)
          obtain ⟨OA, oc, rfl, hoc1, hoc2⟩ := hS.shape_ (n := os.length) rfl
          unfold maxLen at hoc2
          obtain ⟨ON, hON⟩ : ∃ ON, os.length = ON := ⟨_, rfl⟩
          rw [hON] at hS hoc1 ⊢
          have HON2 := Lib.hid hON
          have HL6 := Lib.hid hLE
          have HS6 := Lib.hid hS
          have HOU := Lib.hid hO
          have HVI := Lib.hid (view_any hLE.mst)
          clear hLE hS hO hON y0
          go_wp2_with fail
          refine HVI.out.mono ?_
          rintro e wv ⟨a', b', c', rfl, hV, hBv⟩
          obtain ⟨VN, hVN⟩ : ∃ VN, s2.v.L.length = VN := ⟨_, rfl⟩
          obtain ⟨A7, a7, B7, b7, C7, c7, rfl, rfl, rfl, _⟩ := hV.shape
          rw [hVN] at hV ⊢
          have HVN := Lib.hid hVN
          have HVv := Lib.hid hV
          have HBv := Lib.hid hBv
          clear hV hBv hVN
          go_upto_region 30 with (fail)
          have hal : Below wv.heap.size wv (wv.alloc (.cells #[.int .i64 s2.v.ep, .slice A7 VN a7, .slice B7 VN b7, .slice C7 VN c7] 45)) := (Below.refl _ wv).alloc (Nat.le_refl _) _
          have hkv := heap_alloc_new wv (.cells #[.int .i64 s2.v.ep, .slice A7 VN a7, .slice B7 VN b7, .slice C7 VN c7] 45)
          obtain ⟨bv, hbv⟩ : ∃ bv, wv.heap.size = bv := ⟨_, rfl⟩
          rw [hbv] at hkv ⊢
          generalize wv.alloc (.cells #[.int .i64 s2.v.ep, .slice A7 VN a7, .slice B7 VN b7, .slice C7 VN c7] 45) = wz at hal hkv ⊢
          have HBz := Lib.hid (show Below wc.heap.size wc wz from HBv.out.trans (hal.mono HBv.out.size))
          have HKV2 := Lib.hid hkv
          have HVz := Lib.hid (HVv.out.fresh hal)
          have HSz := Lib.hid (HS6.out.fresh HBz.out)
          have HOz := Lib.hid (HL6.out.own.fresh HBz.out)
          have HBV := Lib.hid (show w5.heap.size ≤ bv by have := HBv.out.size; omega)
          clear hal hkv hbv
          go_wp2_with fail
          go_loopw [14, 22] (fun lv kv wy => LeO wz w4.heap.size (.slice LA LN LC) l os lv kv wy) (fun _ kv _ => ON - (intOf kv).toNat)
          case atStart => exact ⟨0, rfl, Nat.zero_le _, by simpa using HOz.out, Keeps.refl _ _, fun b hb => .inl hb⟩
          case round =>
            obtain ⟨k, rfl, hk, hOw, hKy, hny⟩ := hrel
            rw [HON2.out] at hk
            obtain ⟨LA2, LC2, rfl, hla2, _⟩ := hOw.shape_ (n := (l ++ (os.take k).flatMap newL).length) rfl
            obtain ⟨M, hM⟩ : ∃ M, (l ++ (os.take k).flatMap newL).length = M := ⟨_, rfl⟩
            have hMb : M ≤ 10 * i + 10 := by
              rw [← hM, List.length_append, HLN.out]
              have h1 : ((os.take k).flatMap newL).length ≤ (os.flatMap newL).length := by
                conv => rhs; rw [← List.take_append_drop k os, List.flatMap_append, List.length_append]
                omega
              omega
            rw [hM] at hOw hla2 hny ⊢
            have HM := Lib.hid hM
            have HOw := Lib.hid hOw
            have HKy := Lib.hid hKy
            have HNY := Lib.hid hny
            clear hOw hKy hny hM
            have hkw : (k : Int) + 1 ≤ 9223372036854775807 ∨ ON ≤ k := by omega
            have hw2 : k < ON → IntKind.i64.wrap ((k : Int) + 1) = (k : Int) + 1 := fun h => IntWalk.i64_in _ (by omega)
            clear hkw
            by_cases hlk : k < ON
            · have hw2 := hw2 hlk
              have e2 : decide ((k : Int) < (ON : Int)) = true := decide_eq_true (by omega)
              have hko : k < os.length := by rw [HON2.out]; exact hlk
              obtain ⟨b9, p9, rfl, hb9, hb9', x0z, x1z⟩ := out_at HSz.out hko
              have hnl9 : ¬ (Value.slice LA LN LC).ownBlock = some b9 := fun e => by have := (HO5.out b9 e).2; have h3 : w5.heap.size ≤ b9 := hb9; omega
              have x0 := (HKy.out.cell (a := ⟨b9, p9 + k * 2, none⟩) hb9' hnl9).trans x0z
              have x1 := (HKy.out.cell (a := ⟨b9, p9 + k * 2 + 1, none⟩) hb9' hnl9).trans x1z
              clear x0z x1z
              have HB9 := Lib.hid (And.intro hb9' hnl9)
              have hop := HOU.out os[k] (List.getElem_mem hko)
              have htk := List.take_succ_eq_append_getElem hko
              obtain ⟨o, ho⟩ : ∃ o, os[k] = o := ⟨_, rfl⟩
              rw [ho] at x0 x1 hop htk
              have HTK : Hid (l ++ (os.take (k + 1)).flatMap newL = (l ++ (os.take k).flatMap newL) ++ newL o) := Lib.hid (by rw [htk, List.flatMap_append, List.flatMap_cons, List.flatMap_nil, List.append_nil, List.append_assoc])
              have hk0 : (0 : Int) ≤ (k : Int) := Int.natCast_nonneg _
              have hk1 : (k : Int) < (ON : Int) := by omega
              clear ho htk hko hb9 hb9' hnl9
              rcases hop with hne | ⟨hT, u, hpay, hu1, hu2, hu3, hu4⟩
              · as_aux_lemma =>
                  have hnl := fun W => not_leaseL o.T hne o.pay 39 W
                  have HNL := Lib.hid (newL_none hne)
                  clear hne
                  go_wp2_with fail
                  go_roundw
                  case rel =>
                    have hal : Below wr.heap.size wr (wr.alloc (.cells #[.int .i64 0, .int .i64 0] 64)) := (Below.refl _ _).alloc (Nat.le_refl _) _
                    exact ⟨k + 1, by go_num, by rw [HON2.out]; omega, by rw [HTK.out, HNL.out, List.append_nil]; exact HOw.out.fresh hal, HKy.out.fresh hal, HNY.out⟩
                  case measure => simp [intOf]; omega
              · as_aux_lemma =>
                  have hnl := fun W => as_lease (.agg #[.int .i64 s2.v.ep, .int .i64 u]) 39 W
                  have HNL := Lib.hid (newL_some hT hpay)
                  rw [hT, hpay] at x1
                  clear hT hpay
                  go_upto_region 35 with (fail)
                  have hal : Below wr.heap.size wr (wr.alloc (.cells #[.int .i64 s2.v.ep, .int .i64 u] 64)) := (Below.refl _ _).alloc (Nat.le_refl _) _
                  have hk9 := heap_alloc_new wr (.cells #[.int .i64 s2.v.ep, .int .i64 u] 64)
                  obtain ⟨q9, hq9⟩ : ∃ q9, wr.heap.size = q9 := ⟨_, rfl⟩
                  have HS9 : Hid ((wr.alloc (.cells #[.int .i64 s2.v.ep, .int .i64 u] 64)).heap.size = q9 + 1 ∧ wr.heap.size = q9) := Lib.hid ⟨by rw [World.size_alloc, hq9], hq9⟩
                  rw [hq9] at hk9 ⊢
                  generalize wr.alloc (.cells #[.int .i64 s2.v.ep, .int .i64 u] 64) = w9 at hal hk9 HS9 ⊢
                  have HK9 := Lib.hid hk9
                  have x0 := (hal.cell (p := ⟨b9, p9 + k * 2, none⟩) (World.block_lt_of_cell? _ _ x0)).trans x0
                  have c1 := cell_of_row w9 q9 1 _ _ _ hk9
                  have HO9 := Lib.hid (HOw.out.fresh hal)
                  have HY9 := Lib.hid (HKy.out.fresh hal)
                  have HOL := Lib.hid (fun b (e : (Value.slice LA2 M LC2).ownBlock = some b) => HOw.out.lt b e)
                  clear hal hk9 hq9 x1 hnl
                  go_wp2_with fail
                  have hal : Below w9.heap.size w9 (w9.drew.alloc (.cells #[.int .i64 o.rcv, .int .i64 u] 67)) := (show Below w9.heap.size w9 w9.drew from ⟨rfl, rfl, rfl, Nat.le_refl _, fun _ _ => rfl⟩).alloc (Nat.le_refl _) _
                  have HAL := Lib.hid hal
                  have z0 := (hal.cell (p := ⟨b9, p9 + k * 2, none⟩) (World.block_lt_of_cell? _ _ x0)).trans x0
                  have z1 := (hal.cell (p := ⟨q9, 1, none⟩) (World.block_lt_of_cell? _ _ c1)).trans c1
                  have HOA := Lib.hid (HO9.out.fresh hal)
                  clear hal
                  go_region_held3 (fun x => x.cell? ⟨b9, p9 + k * 2, none⟩ = some (.int .i64 o.rcv) ∧ x.cell? ⟨q9, 1, none⟩ = some (.int .i64 u))
                    (first | with_reducible exact ⟨m0', m1'⟩ | with_reducible exact ⟨z0, z1⟩ | with_reducible exact ⟨x0, c1⟩ | go_keep)
                    (first
                      | (refine elLL.step _ (by rfl) (.tmp 155) (.tmp 164) (by rfl) w4.heap.size (.slice LA2 M LC2) _ (by rfl) HOA.out _ (.slice (some ⟨w9.heap.size, 0, none⟩) 1 1) [(o.rcv, u)] (by rfl) (Sl.single (heap_alloc_new _ _) rfl) ?_ ?_ ?_
                         · have := HM.out; simp only [List.length_singleton]; omega
                         · refine Nat.le_trans ?_ HAL.out.size; have := HS9.out; have := HKy.out.size; have := HBz.out.size; have := HL5.out.sz; omega
                         intro v' w10 hown' hg' hat'
                         have HO10 := Lib.hid hown'
                         have HG10 := Lib.hid (Keeps.of_grown hg')
                         have HAT := Lib.hid hat'
                         have hz0 := World.block_lt_of_cell? _ _ z0
                         have hz1 := World.block_lt_of_cell? _ _ z1
                         have m0' := (HG10.out.cell (a := ⟨b9, p9 + k * 2, none⟩) hz0 (fun e => (HNY.out b9 e).elim HB9.out.2 (fun h => by have := HB9.out.1; omega))).trans z0
                         have m1' := (HG10.out.cell (a := ⟨q9, 1, none⟩) hz1 (fun e => by have := (HOL.out q9 e).2; have := HS9.out; omega)).trans z1
                         clear hown' hg' hat' hz0 hz1))
                  have hq9 := (HAL.out.block q9 (Array.getElem?_eq_some_iff.1 HK9.out).1).trans HK9.out
                  have hq10 := HG10.out.grownTo hq9 (fun e => by have := (HOL.out q9 e).2; have := HS9.out; omega)
                  have hbv0 := (Array.getElem?_eq_some_iff.1 HKV2.out).1
                  have hbvr := HY9.out.grownTo HKV2.out (fun e => by have := (HO5.out bv e).2; have := HBV.out; omega)
                  have hbva := (HAL.out.block bv (Array.getElem?_eq_some_iff.1 hbvr).1).trans hbvr
                  have hbvx := HG10.out.grownTo hbva (fun e => (HNY.out bv e).elim (fun h => by have := (HO5.out bv h).2; have := HBV.out; omega) (fun h => by omega))
                  have t0 := cell_of_row w10 q9 0 _ _ _ hq10
                  have t1 := cell_of_row w10 q9 1 _ _ _ hq10
                  have v0' := cell_of_row w10 bv 0 _ _ _ hbvx
                  have du : decide (u ≤ now2) = false := decide_eq_false (by omega)
                  have de : (s2.v.ep != s2.v.ep) = false := by simp
                  clear hq9 hq10 hbv0 hbvr hbva hbvx z0 z1 m0' m1' x0 c1
                  go_wp2_with fail
                  go_roundw
                  case rel =>
                    have hfr := (HY9.out.fresh HAL.out).andThen HG10.out (fun b hb e => (HNY.out b e).elim id (fun h => by omega))
                    refine ⟨k + 1, by go_num, by rw [HON2.out]; omega, ?_, hfr, fun b hb => ?_⟩
                    · rw [HTK.out, HNL.out]
                      exact HO10.out
                    · rcases HAT.out with h | h
                      · exact HNY.out b (h ▸ hb)
                      · rw [h] at hb
                        have h2 := HAL.out.size
                        have h3 := HY9.out.size
                        have hb : (w9.drew.alloc (.cells #[.int .i64 o.rcv, .int .i64 u] 67)).heap.size = b := Option.some.inj hb
                        exact .inr (by omega)
                  case measure => simp [intOf]; omega
            · have e2 : decide ((k : Int) < (ON : Int)) = false := decide_eq_false (by omega)
              have hkn : k = ON := by omega
              subst hkn
              have htk : os.take k = os := List.take_of_length_le (by rw [HON2.out]; exact Nat.le_refl _)
              rw [htk] at HOw HM
              obtain ⟨l2, hl2⟩ : ∃ l2, l ++ os.flatMap newL = l2 := ⟨_, rfl⟩
              have hle2 := HL6.out.leases.told HOU.out
              rw [hl2] at HOw HM hle2
              have HLE2 := Lib.hid hle2
              have hGz : ∀ b, (Value.slice LA LN LC).ownBlock = some b → w4.heap.size ≤ b ∧ b < w5.heap.size := HO5.out
              have hl6z := HL6.out.fresh HBz.out
              have hnew : LeIn X' w w4.heap.size g p m2 fail now2 s2 vs2 c2 (.slice LA2 M LC2) l2 wr :=
                { mst := hl6z.mst.grow HKy.out (fun b hb => ⟨.inr hb, by
                    have h1 := (hGz b hb).1
                    have h2 := HG4.out
                    exact Decidable.byContradiction fun h3 => by have := HX'.out.2.1 b (HX'.out.2.2.2 b (by omega)); omega⟩) (fun b hb => hb.elim (fun h => .inl (.inl h)) (fun h => (HNY.out b h).elim (fun h2 => .inl (.inr h2)) (fun h2 => .inr ⟨h2, (HOw.out.lt b h).2⟩))) (fun b hb => .inl (HX'.out.2.2.2 b hb))
                  own := HOw.out
                  heard := HL6.out.heard
                  leases := hle2
                  below := Below.keep hl6z.below HKy.out hl6z.below.size (fun b hb => Nat.le_trans HB4.out.size (hGz b hb).1)
                  sz := Nat.le_trans hl6z.sz HKy.out.size
                  pair := (HKy.out.cell (a := ⟨g, 0, none⟩) (World.block_lt_of_cell? _ _ hl6z.pair) (fun e => by have := (hGz g e).1; have := HG4.out; omega)).trans hl6z.pair }
              have HNEW := Lib.hid hnew
              have hbr := HKy.out.grownTo HKV2.out (fun e => by have := (hGz bv e).2; have := HBV.out; omega)
              have HBR := Lib.hid hbr
              have HVr := Lib.hid (HVz.out.keep HKy.out (fun b _ h1 h2 => by have := (hGz b h2).2; have h3 : wc.heap.size ≤ b := h1; omega))
              have HLB : Hid (∀ z ∈ l2, z.2 ≤ now2 ∨ z.1 ∈ s2.v.nodes) := Lib.hid fun z hz => (hle2 z hz).imp id And.left
              have hM1 := HM.out
              clear htk hl2 hle2 hGz hl6z hnew hbr
              go_wp2_with fail
              go_loopw [25] (fun jv wy => ∃ j : Nat, j ≤ M ∧ jv = .int .i64 j ∧ Below wr.heap.size wr wy) (fun jv _ => M - (intOf jv).toNat)
              case atStart => exact ⟨0, Nat.zero_le _, rfl, Below.refl _ _⟩
              case round =>
                obtain ⟨j, hj, rfl, hBj⟩ := hrel
                have HBj := Lib.hid hBj
                clear hBj
                by_cases hlj : j < M
                · have e3 : decide ((j : Int) < (M : Int)) = true := decide_eq_true (by omega)
                  have hjl : j < l2.length := by rw [hM1]; exact hlj
                  obtain ⟨bl, pl, hpe, _, _, hxx⟩ := ((HOw.out.sl (fun _ => rfl)).fresh HBj.out).cell_ hjl
                  subst hpe
                  have x0 := hxx 0 _ rfl
                  have x1 := hxx 1 _ rfl
                  rw [Nat.add_zero] at x0
                  have hz := HLB.out l2[j] (List.getElem_mem hjl)
                  obtain ⟨zz, hzz⟩ : ∃ z, l2[j] = z := ⟨_, rfl⟩
                  rw [hzz] at x0 x1 hz
                  obtain ⟨nd, un⟩ := zz
                  simp only at x0 x1 hz
                  have hj0 : (0 : Int) ≤ (j : Int) := Int.natCast_nonneg _
                  have hj1 : (j : Int) < (M : Int) := by omega
                  have hwj : IntKind.i64.wrap ((j : Int) + 1) = (j : Int) + 1 := IntWalk.i64_in _ (by omega)
                  clear hxx hzz hjl
                  by_cases hun : un ≤ now2
                  · have d9 : decide (now2 < un) = false := decide_eq_false (by omega)
                    clear hun hz
                    go_wp2_with fail
                    go_quiet (fail)
                    go_wp2_with fail
                    go_roundw
                    case rel => exact ⟨j + 1, hlj, by go_num, HBj.out.trans ⟨rfl, rfl, rfl, Nat.le_refl _, fun _ _ => rfl⟩⟩
                    case measure => simp [intOf]; omega
                  · have d9 : decide (now2 < un) = true := decide_eq_true (by omega)
                    have hmem := hz.resolve_left hun
                    have hbj := (HBj.out.block bv (Array.getElem?_eq_some_iff.1 HBR.out).1).trans HBR.out
                    have v0' := cell_of_row wr bv 0 _ _ _ hbj
                    have v1' := cell_of_row wr bv 1 _ _ _ hbj
                    have v2' := cell_of_row wr bv 2 _ _ _ hbj
                    have v3' := cell_of_row wr bv 3 _ _ _ hbj
                    have hpl := fun W (hW : Below wr.heap.size wr W) => place_any W _ s2.v.ep s2.v.L _ _ _ ((HVr.out.fresh HBj.out).fresh hW) HL6.out.mst.right nd
                    have hIb := (idxI_bd nd 0 (s2.v.L.map Nd.node) (Int.le_refl _)).2.2.2 hmem
                    obtain ⟨I, hI⟩ : ∃ I, idxI nd 0 (s2.v.L.map Nd.node) = I := ⟨_, rfl⟩
                    rw [hI] at hpl hIb
                    have HPL := Lib.hid hpl
                    have d7 : decide (I < 0) = false := decide_eq_false (by omega)
                    clear hpl hI hun hz hmem hbj
                    go_upto_region 41 with (fail)
                    refine region_mid 14 rfl (by kernel_rfl) (by kernel_rfl) ?_
                    simp only [List.take_succ_cons, List.take_zero, List.drop_succ_cons, List.drop_zero]
                    change wpStill _ _ wr.drew _ _ _
                    refine still_of_quiet ?_
                    repeat (go_big_quiet_step (fail))
                    refine wpQuiet_nil ?_
                    change wpList _ _ _ _ _ wr.drew
                    go_wp2_with fail
                    refine (HPL.out _ (show Below wr.heap.size wr wr.drew from ⟨rfl, rfl, rfl, Nat.le_refl _, fun _ _ => rfl⟩)).mono ?_
                    rintro e wq ⟨rfl, hBz⟩
                    have hBz : Below wr.heap.size wr wq := ⟨hBz.os, hBz.tape, hBz.output, hBz.size, hBz.block⟩
                    have HBq := Lib.hid (HBj.out.trans (hBz.mono HBj.out.size))
                    clear hBz x0 x1 v0' v1' v2' v3'
                    go_wp2_with fail
                    unfold Go.Bl.Rest
                    refine still_of_quiet ?_
                    repeat (go_big_quiet_step (fail))
                    refine wpQuiet_nil ?_
                    go_wp2_with fail
                    go_roundw
                    case rel => exact ⟨j + 1, hlj, by go_num, HBq.out⟩
                    case measure => simp [intOf]; omega
                · have e3 : decide ((j : Int) < (M : Int)) = false := decide_eq_false (by omega)
                  have hw1 : IntKind.i64.wrap ((i : Int) + 1) = (i : Int) + 1 := IntWalk.i64_in _ (by omega)
                  go_wp2_with fail
                  go_roundw
                  case rel =>
                    refine ⟨i + 1, m2, now2, s2, vs2, c2, l2, rfl, rfl, by go_num, hlt, ⟨n0, by omega, by omega, by omega, by omega⟩, HNEW.out.fresh HBj.out⟩
                  case measure => simp [intOf]; omega
      · have hin2 : i = na := by omega
        subst hin2
        have e0 : decide ((i : Int) < (i : Int)) = false := by simp
        go_wp2_with fail
        go_ret
        exact ⟨rfl, HLE.out.below⟩
  · obtain ⟨rfl, hB4⟩ := hO.2 hc
    have HB4 := Lib.hid (HB3.out.trans (hB4.mono HB3.out.size))
    clear hB4
    go_wp2_with fail
    go_ret
    exact ⟨rfl, HB4.out⟩
end Go.Proofs.YtoegdpcfhmjnaaaGreatDoor
