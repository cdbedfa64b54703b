/- NetOnce: what the statement's function does: it answers true. -/
import Derived.Test.YtnooggfecgidcaaNetF
import Derived.Test.YtnooggfecgidcaaBlL
import Derived.Deep.DeepCutAuto
namespace Go.Proofs.Ytnooggfecgidcaa
open Go.RowKit Go.Bl
attribute [local go_sem ↓] Go.wp_at_zero Go.wp_at_succ

def strc (s : ByteArray) : List Value := [.string s]
theorem bytes_inj (a b : ByteArray) : (a.toList = b.toList) = (a = b) := by
  rw [ByteArray.toList_eq, ByteArray.toList_eq]
  obtain ⟨⟨x⟩⟩ := a
  obtain ⟨⟨y⟩⟩ := b
  simp
theorem neqPk_self (a b c : Int) (d : ByteArray) (w : World) : (binOp .neq 32 (.agg #[.int .i64 a, .int .i64 b, .int .i64 c, .string d]) (.agg #[.int .i64 a, .int .i64 b, .int .i64 c, .string d])).run Try.prog w = .ok (.bool false) w := by
  have u3 := Try.underlying9
  have a3 := Try.isAgg9
  have z3 := Try.sizeOf9
  have u4 := Try.underlying3
  have a4 := Try.isAgg3
  have z4 := Try.sizeOf3
  have hS : Try.prog.underlying 32 = some (.struct (Try.prog.fieldsOf 32)) := by kernel_rfl
  have hp : Try.prog.stoodInHeld 32 = false := by kernel_rfl
  rw [run_neq_struct, show (10000 : Nat) = 9999 + 1 from rfl, run_equalIn_agg w 9999 32 _ _ hS hp]
  simp only [Program.fieldsOf, Try.underlying32]
  go_simp

theorem pkc_one (x : Pk) (u : Value) (h : u ∈ pkc x) : u.oneCell' = true := by
  simp only [pkc, List.mem_cons, List.not_mem_nil, or_false] at h
  rcases h with rfl | rfl | rfl | rfl <;> rfl
theorem elPk : El Try.prog 39 32 4 40 pkc := ⟨Try.underlying39, ⟨_, infoPk, rfl⟩, by decide, by decide, fun _ => rfl, pkc_one⟩

/-- What is sent of the first m texts. -/
def sentL (ts : List ByteArray) (m : Nat) : List Pk := (List.range m).map fun (j : Nat) => ⟨(j : Int) + 1, j, -(j : Int), ts.getD j ⟨#[]⟩⟩
theorem sentL_succ (ts : List ByteArray) (m : Nat) : sentL ts (m + 1) = sentL ts m ++ [⟨(m : Int) + 1, m, -(m : Int), ts.getD m ⟨#[]⟩⟩] := by simp [sentL, List.range_succ]
theorem sentL_len (ts : List ByteArray) (m : Nat) : (sentL ts m).length = m := by simp [sentL]
theorem sentL_nodup (ts : List ByteArray) (m : Nat) : ((sentL ts m).map Pk.no).Nodup := by
  unfold sentL
  rw [List.map_map]
  refine List.pairwise_map.2 (List.nodup_range.imp fun {a b} h e => h ?_)
  simp at e
  omega

def OnceRel (w : World) (p : Nat) (K : Nat) (ts : List ByteArray) (vs i : Value) (wr : World) : Prop :=
  ∃ k m : Nat, k ≤ ts.length ∧ m = min k (K + 1) ∧ i = .int .i64 k ∧ NetP (fun q => q < w.heap.size ∨ vs.ownBlock = some q) wr p ⟨1 + (K : Int), m, (k : Int) - m, sentL ts m⟩ ∧
    Own wr w.heap.size 32 4 pkc vs (sentL ts m) ∧ Below w.heap.size w wr
def OnceRel2 (w : World) (p : Nat) (vs i : Value) (wr : World) : Prop :=
  ∃ (j : Nat) (S : List Pk) (s : Nt), i = .int .i64 j ∧ j + S.length ≤ 60 ∧ s.last ≤ 60 ∧ (∀ q, q ∈ S ↔ q ∈ s.L) ∧ (S.map Pk.no).Nodup ∧ NetP (fun q => q < w.heap.size ∨ vs.ownBlock = some q) wr p s ∧
    Own wr w.heap.size 32 4 pkc vs S ∧ Below w.heap.size w wr
theorem NetP.slide {B : Nat} {v v' : Value} {w w' : World} {p : Nat} {s : Nt} (h : NetP (fun q => q < B ∨ v.ownBlock = some q) w p s) (hk : Keeps (fun q => v.ownBlock = some q) w w') (hv : ∀ q, v'.ownBlock = some q → v.ownBlock = some q ∨ w.heap.size ≤ q) :
    NetP (fun q => q < B ∨ v'.ownBlock = some q) w' p s := by
  obtain ⟨F, h, hF⟩ := h
  refine ⟨F, h.keep hk (fun k hf hv => hF k hf (.inr hv)), fun k hf hx => ?_⟩
  rcases hx with hx | hx
  · exact hF k hf (.inl hx)
  · rcases hv k hx with e | e
    · exact hF k hf (.inr e)
    · have := h.lt k hf; omega
theorem sizePk (w : World) : (sizeOf 32).run Try.prog w = .ok 4 w := by kernel_rfl
theorem cut_mem {S : List Pk} (hn : (S.map Pk.no).Nodup) {k : Nat} (hk : k < S.length) (q : Pk) : q ∈ S.take k ++ S.drop (k + 1) ↔ q ∈ S ∧ q.no ≠ S[k].no := by
  have hs : S = S.take k ++ S[k] :: S.drop (k + 1) := by rw [← List.drop_eq_getElem_cons hk, List.take_append_drop]
  generalize S[k] = x at hs ⊢
  generalize S.take k = a at hs ⊢
  generalize S.drop (k + 1) = b at hs ⊢
  subst hs
  rw [List.map_append, List.map_cons, List.nodup_append] at hn
  obtain ⟨n1, n2, n3⟩ := hn
  rw [List.nodup_cons] at n2
  simp only [List.mem_append, List.mem_cons]
  constructor
  · rintro (h | h)
    · exact ⟨.inl h, n3 _ (List.mem_map.2 ⟨q, h, rfl⟩) _ (by simp)⟩
    · exact ⟨.inr (.inr h), fun e => n2.1 (e ▸ List.mem_map.2 ⟨q, h, rfl⟩)⟩
  · rintro ⟨h | rfl | h, hne⟩
    · exact .inl h
    · exact absurd rfl hne
    · exact .inr h
theorem cut_nodup {S : List Pk} (hn : (S.map Pk.no).Nodup) (k : Nat) : ((S.take k ++ S.drop (k + 1)).map Pk.no).Nodup := by
  rw [← List.eraseIdx_eq_take_drop_succ]
  exact hn.sublist (List.Sublist.map _ (List.eraseIdx_sublist _ _))
theorem cut_len {S : List Pk} {k : Nat} (hk : k < S.length) : (S.take k ++ S.drop (k + 1)).length = S.length - 1 := by simp; omega
def sliceLen : Value → Nat
  | .slice _ n _ => n
  | _ => 0

theorem own_keep_not {X : Nat → Prop} {w w' : World} {B : Nat} {v : Value} {l : List Pk} (h : Own w B 32 4 pkc v l) (hk : Keeps (fun k => ¬ X k) w w') (hX : ∀ b, v.ownBlock = some b → X b) : Own w' B 32 4 pkc v l :=
  h.keep hk fun b hb hn => hn (hX b hb)

set_option maxRecDepth 4000 in
set_option maxHeartbeats 4000000 in
theorem once_any (w : World) (G1 G2 : Nat → Prop) (room : Int) (v1 v2 : Value) (ts : List ByteArray) (os : List Int) (hroom : i64 room) (h1 : Sl w G1 1 strc v1 ts) (h2 : Sl w G2 1 intc v2 os)
    (hts : ∀ t ∈ ts, t.size ≤ 140737488355328) (hos : ∀ n ∈ os, i64 n) (hG1 : ∀ k, G1 k → k < w.heap.size) (_hG2 : ∀ k, G2 k → k < w.heap.size) :
    Calls Try.prog 4 #[.int .i64 room, v1, v2] w fun e w' => e = .returned (.bool true) ∧ Below w.heap.size w w' := by
  obtain ⟨A1, c1, rfl, hc1, hd1⟩ := h1.shape
  obtain ⟨A2, c2, rfl, hc2, hd2⟩ := h2.shape
  unfold maxLen at hd1 hd2
  have hpick : ∀ w, Calls Try.prog 13 #[.int .i64 room, .int .i64 50] w fun e w' => e = .returned (.int .i64 ((if room < 0 then -(room + 1) else room) % 50)) ∧ w = w' := fun w => pick_any w room 50 hroom (by omega)
  obtain ⟨K, hK, hK50⟩ : ∃ K : Nat, (if room < 0 then -(room + 1) else room) % 50 = (K : Int) ∧ K < 50 := ⟨((if room < 0 then -(room + 1) else room) % 50).toNat, by omega, by omega⟩
  rw [hK] at hpick
  have HP := Lib.hid hpick
  have HT := Lib.hid h1
  have HO := Lib.hid h2
  have Hts := Lib.hid hts
  have Hos := Lib.hid hos
  have HR := Lib.hid hroom
  clear hpick hK h1 h2 hts hos hroom
  go_enter Try.func4, Try.ntmps4
  go_wp2_with fail
  refine (shown_any w).mono ?_
  rintro e w0 ⟨rfl, hB0⟩
  have HB0 := Lib.hid hB0
  clear hB0
  go_wp2_with fail
  refine (HP.out w0).mono ?_
  rintro e w0' ⟨rfl, rfl⟩
  go_wp2_with fail
  refine (newP w0 (fun k => k < w.heap.size) (fun k hk => Nat.lt_of_lt_of_le hk HB0.out.size) (1 + (K : Int)) (by omega) (by omega)).mono ?_
  rintro e w1 ⟨p, rfl, hN1, hB1⟩
  have HN1 := Lib.hid hN1
  have HB1 := Lib.hid (HB0.out.trans (hB1.mono HB0.out.size))
  clear hN1 hB1 HB0
  by_cases h60 : ts.length ≤ 60
  · have d60 : decide ((60 : Int) < (ts.length : Int)) = false := by simp; omega
    go_wp2_with fail
    go_loopw [10, 11] (fun vs i wr => OnceRel w p K ts vs i wr) (fun _ i _ => ts.length - (Go.RowKit.intOf i).toNat)
    case atStart =>
      refine ⟨0, 0, Nat.zero_le _, by simp, rfl, ?_, Own.nil_ _ _ _ _ _, HB1.out⟩
      exact HN1.out.more (fun k hk => .inl (by simpa [Value.ownBlock] using hk))
    case round =>
      obtain ⟨k, m, hk, hm, rfl, hN, hS, hB⟩ := hrel
      obtain ⟨As, cs, rfl, hsc1, hsc2⟩ := hS.shape_ (sentL_len ts m)
      have HN := Lib.hid hN
      have HS := Lib.hid hS
      have HB := Lib.hid hB
      have HM := Lib.hid hm
      have hmk : m ≤ k := by omega
      have hmK : m ≤ K + 1 := by omega
      unfold maxLen at hsc2
      clear hN hS hB hm
      by_cases hlt : k < ts.length
      · obtain ⟨b, o, rfl, hGb, hbl, hx⟩ := HT.out.cell_ hlt
        have x0 := (HB.out.cell (p := ⟨b, _, none⟩) hbl).trans (hx 0 _ rfl)
        rw [Nat.add_zero, Nat.mul_one] at x0
        clear hx
        have hget : ts.getD k ⟨#[]⟩ = ts[k] := by simp [hlt]
        have HG := Lib.hid hget
        clear hget
        by_cases hsz : ts[k].size ≤ 1000
        · have dsz : decide ((1000 : Int) < (ts[k].size : Int)) = false := by simp; omega
          have htb := Hts.out ts[k] (List.getElem_mem hlt)
          go_wp2_with fail
          have hXlt : ∀ q, (q < w.heap.size ∨ (Value.slice As m cs).ownBlock = some q) → q < wr.heap.size := fun q hq => by
            rcases hq with hq | hq
            · exact Nat.lt_of_lt_of_le hq HB.out.size
            · exact (HS.out.lt q hq).2
          refine (sendP wr _ hXlt p _ HN.out k (-(k : Int)) ts[k] (by unfold maxLen; omega) (by show (m : Int) ≤ 1000000000000; omega) (by show (k : Int) - m ≤ 1000000000000; omega)).mono ?_
          rintro e w2 ⟨rfl, hN2, hK2⟩
          have x2 := (hK2.cell (a := ⟨b, o + k, none⟩) (Nat.lt_of_lt_of_le hbl HB.out.size) (fun h => h (.inl (hG1 b hGb)))).trans x0
          have hS2 := own_keep_not HS.out hK2 (fun q hq => .inr hq)
          have hB2 := HB.out.trans (below_not hK2 HB.out.size (fun q hq => .inl hq))
          have hz2 := hK2.size
          by_cases hfit : k < K + 1
          · have hmk2 : m = k := by have := HM.out; omega
            have hsend : Nt.send ⟨1 + (K : Int), m, (k : Int) - m, sentL ts m⟩ k (-(k : Int)) ts[k] = (⟨1 + (K : Int), (m : Int) + 1, (k : Int) - m, sentL ts (m + 1)⟩, (m : Int) + 1, 0) := by
              unfold Nt.send
              rw [if_neg (by omega), if_neg (by show ¬ (1 + (K : Int) ≤ ((sentL ts m).length : Int)); rw [sentL_len]; omega), sentL_succ, hmk2, HG.out]
            rw [hsend]
            rw [hsend] at hN2
            have HN2 := Lib.hid hN2
            have HS2 := Lib.hid hS2
            have HB2 := Lib.hid hB2
            have HMK := Lib.hid hmk2
            clear hN2 hS2 hB2 hsend hmk2 hK2 x0
            have dlt : decide ((k : Int) < 1 + (K : Int)) = true := by simp; omega
            go_wp2_with fail
            refine (HP.out w2).mono ?_
            rintro e w2' ⟨rfl, rfl⟩
            have hnew := Lib.hid (Sl.single (k := 4) (enc := pkc) (x := ⟨(m : Int) + 1, k, -(k : Int), ts[k]⟩) (heap_alloc_new w2 (.cells #[.int .i64 ((m : Int) + 1), .int .i64 k, .int .i64 (-(k : Int)), .string ts[k]] 32)) rfl)
            go_wp2_with (at_builtin; refine elPk.append _ (by rfl) (.tmp 82) (.tmp 92) (by rfl) w.heap.size _ _ (by rfl) (HS2.out.fresh ((Below.refl _ _).alloc (Nat.le_refl _) _)) _ _ _ (by rfl) hnew.out ?_ ?_ ?_; (rw [sentL_len]; show m + 1 ≤ 1073741824; omega); (have := HB2.out.size; simp; omega); intro v' w3 hown' hgrow hat; have Hown := Lib.hid hown'; clear hown')
            go_roundw
            case rel =>
              have hkk : Keeps (fun q => (Value.slice As m cs).ownBlock = some q) w2 w3 := ((Keeps.refl _ w2).alloc _).grown hgrow (fun q hq _ => hq)
              have hat' : ∀ q, v'.ownBlock = some q → (Value.slice As m cs).ownBlock = some q ∨ w2.heap.size ≤ q := fun q hq => by
                rcases hat with e | e
                · exact .inl (e ▸ hq)
                · rw [e] at hq; simp at hq; exact .inr (by omega)
              refine ⟨k + 1, m + 1, by omega, by have := HMK.out; omega, by go_num, ?_, ?_, HB2.out.trans (hkk.below HB2.out.size (fun q hq => (HS2.out.lt q hq).1))⟩
              · have := HN2.out.slide hkk hat'
                rw [show ((m : Int) + 1) = ((m + 1 : Nat) : Int) by omega, show ((k : Int) - (m : Int)) = ((k + 1 : Nat) : Int) - ((m + 1 : Nat) : Int) by omega] at this
                exact this
              · have hcat : sentL ts m ++ [⟨(m : Int) + 1, k, -(k : Int), ts[k]⟩] = sentL ts (m + 1) := by rw [HMK.out, sentL_succ, HG.out]
                rw [← hcat]
                exact Hown.out
            case measure => simp [Go.RowKit.intOf]; omega
          · have hmk2 : m = K + 1 := by have := HM.out; omega
            have hsend : Nt.send ⟨1 + (K : Int), m, (k : Int) - m, sentL ts m⟩ k (-(k : Int)) ts[k] = (⟨1 + (K : Int), m, (k : Int) - m + 1, sentL ts m⟩, 0, 8) := by
              unfold Nt.send
              rw [if_neg (by omega), if_pos (by show (1 + (K : Int) ≤ ((sentL ts m).length : Int)); rw [sentL_len]; omega)]
            rw [hsend]
            rw [hsend] at hN2
            have HN2 := Lib.hid hN2
            have HS2 := Lib.hid hS2
            have HB2 := Lib.hid hB2
            have HMK := Lib.hid hmk2
            clear hN2 hS2 hB2 hsend hmk2 hK2 x0
            have dlt : decide ((k : Int) < 1 + (K : Int)) = false := by simp; omega
            go_wp2_with fail
            refine (HP.out w2).mono ?_
            rintro e w2' ⟨rfl, rfl⟩
            go_wp2_with fail
            go_roundw
            case rel =>
              refine ⟨k + 1, m, by omega, by have := HMK.out; omega, by go_num, ?_, HS2.out, HB2.out⟩
              have := HN2.out
              rw [show ((k : Int) - (m : Int) + 1) = ((k + 1 : Nat) : Int) - (m : Int) by omega] at this
              exact this
            case measure => simp [Go.RowKit.intOf]; omega
        · have dsz : decide ((1000 : Int) < (ts[k].size : Int)) = true := by simp; omega
          have htb := Hts.out ts[k] (List.getElem_mem hlt)
          go_wp2_with fail
          go_ret
          exact ⟨rfl, HB.out⟩
      · have hkn : k = ts.length := by omega
        have hm60 : m ≤ 60 := by omega
        subst hkn
        obtain ⟨wo, rfl⟩ : ∃ wo : World, wo = wr := ⟨_, rfl⟩
        clear hlt
        go_wp2_with fail
        go_loopw [10, 14] (fun vs i wr => OnceRel2 w p vs i wr) (fun vs _ _ => sliceLen vs)
        case atStart => exact ⟨0, sentL ts m, _, rfl, by rw [sentL_len]; omega, by show (m : Int) ≤ 60; omega, fun q => Iff.rfl, sentL_nodup _ _, HN.out, HS.out, HB.out⟩
        case round =>
          obtain ⟨j, S, s, rfl, hj60, hl60, hmem, hnd, hN, hS, hB⟩ := hrel
          obtain ⟨At, ct, rfl, htc1, htc2⟩ := hS.shape_ rfl
          clear HN HS HB HM
          have HN := Lib.hid hN
          have HS := Lib.hid hS
          have HB := Lib.hid hB
          have HME := Lib.hid hmem
          have HND := Lib.hid hnd
          unfold maxLen at htc2
          clear hN hS hB hmem hnd
          by_cases hpos : 0 < S.length
          · have hXlt : ∀ q, (q < w.heap.size ∨ (Value.slice At S.length ct).ownBlock = some q) → q < wr.heap.size := fun q hq => by
              rcases hq with hq | hq
              · exact Nat.lt_of_lt_of_le hq HB.out.size
              · exact (HS.out.lt q hq).2
            have HX := Lib.hid hXlt
            clear hXlt
            go_upto_if 102 with (fail)
            go_cut [15] (fun s15 wx => ∃ kk : Nat, kk < S.length ∧ s15 = .int .i64 kk ∧ wr = wx)
            case first =>
              by_cases hjo : j < os.length
              · obtain ⟨b2, o2, rfl, hG2b, hbl2, hx⟩ := HO.out.cell_ hjo
                have y0 := (HB.out.cell (p := ⟨b2, _, none⟩) hbl2).trans (hx 0 _ rfl)
                rw [Nat.add_zero, Nat.mul_one] at y0
                clear hx
                have hp2 := fun w => pick_any w os[j] S.length (Hos.out _ (List.getElem_mem hjo)) (by omega)
                obtain ⟨kk, hkk, hkS⟩ : ∃ kk : Nat, (if os[j] < 0 then -(os[j] + 1) else os[j]) % (S.length : Int) = (kk : Int) ∧ kk < S.length := by
                  have h1 := Int.emod_nonneg (if os[j] < 0 then -(os[j] + 1) else os[j]) (show (S.length : Int) ≠ 0 by omega)
                  have h2 := Int.emod_lt_of_pos (if os[j] < 0 then -(os[j] + 1) else os[j]) (show (0 : Int) < (S.length : Int) by omega)
                  exact ⟨((if os[j] < 0 then -(os[j] + 1) else os[j]) % (S.length : Int)).toNat, by omega, by omega⟩
                rw [hkk] at hp2
                have HP2 := Lib.hid hp2
                clear hp2 hkk
                go_wp2_with fail
                refine (HP2.out wr).mono ?_
                rintro e wr' ⟨rfl, rfl⟩
                go_wp2_with fail
                go_meet
                exact ⟨kk, hkS, rfl, rfl⟩
              · go_wp2_with fail
                go_meet
                exact ⟨0, hpos, rfl, rfl⟩
            case rest =>
              obtain ⟨kk, hkS, rfl, rfl⟩ := hcut
              obtain ⟨bs, os', hAt, hbs, hbsl, hx⟩ := (HS.out.sl elPk.len).cell_ hkS
              have s0 := hx 0 _ rfl
              have s1 := hx 1 _ rfl
              have s2 := hx 2 _ rfl
              have s3 := hx 3 _ rfl
              rw [Nat.add_zero] at s0
              subst hAt
              clear hx
              have hq := (HME.out S[kk]).1 (List.getElem_mem hkS)
              have hno := HN.out.ok.nos _ hq
              go_wp2_with fail
              refine (takeP wr _ p s HN.out S[kk] hq S[kk].no (by unfold i64; omega) rfl).mono ?_
              rintro e w2 ⟨rfl, hN2, hK2⟩
              have hbX : ¬ ¬ (bs < w.heap.size ∨ (Value.slice (some ⟨bs, os', none⟩) S.length ct).ownBlock = some bs) := fun h => h (.inr hbs)
              have t0 := (hK2.cell (a := ⟨bs, os' + kk * 4, none⟩) hbsl hbX).trans s0
              have t1 := (hK2.cell (a := ⟨bs, os' + kk * 4 + 1, none⟩) hbsl hbX).trans s1
              have t2 := (hK2.cell (a := ⟨bs, os' + kk * 4 + 2, none⟩) hbsl hbX).trans s2
              have t3 := (hK2.cell (a := ⟨bs, os' + kk * 4 + 3, none⟩) hbsl hbX).trans s3
              have hbs2 : bs < w2.heap.size := Nat.lt_of_lt_of_le hbsl hK2.size
              have HN2 := Lib.hid hN2
              have HS2 := Lib.hid (own_keep_not HS.out hK2 (fun q hq => .inr hq))
              have HB2 := Lib.hid (HB.out.trans (below_not hK2 HB.out.size (fun q hq => .inl hq)))
              clear hN2 hK2 s0 s1 s2 s3
              go_wp2_with fail
              refine (takeNoP _ _ p _ (HN2.out.fresh ((Below.refl _ _).alloc (Nat.le_refl _) (.cells #[.int .i64 S[kk].no, .int .i64 S[kk].frm, .int .i64 S[kk].to, .string S[kk].txt] 32))) S[kk].no (by unfold i64; omega) (fun q hq => by have := (List.mem_filter.1 hq).2; simpa using this)).mono ?_
              rintro e w3 ⟨rfl, hN3, hB3⟩
              have hz3 := hB3.size
              rw [World.size_alloc] at hz3
              have hz32 : w2.heap.size < w3.heap.size := by omega
              have hb3 : bs < w3.heap.size := by omega
              have hbA : bs < (w2.alloc (.cells #[.int .i64 S[kk].no, .int .i64 S[kk].frm, .int .i64 S[kk].to, .string S[kk].txt] 32)).heap.size := by rw [World.size_alloc]; omega
              have hcA : ∀ o, (w2.alloc (.cells #[.int .i64 S[kk].no, .int .i64 S[kk].frm, .int .i64 S[kk].to, .string S[kk].txt] 32)).cell? ⟨bs, o, none⟩ = w2.cell? ⟨bs, o, none⟩ := fun o => ((Keeps.refl (fun _ => False) w2).alloc _).cell (a := ⟨bs, o, none⟩) hbs2 id
              have u0 := ((hB3.cell (p := ⟨bs, os' + kk * 4, none⟩) hbA).trans (hcA _)).trans t0
              have u1 := ((hB3.cell (p := ⟨bs, os' + kk * 4 + 1, none⟩) hbA).trans (hcA _)).trans t1
              have u2 := ((hB3.cell (p := ⟨bs, os' + kk * 4 + 2, none⟩) hbA).trans (hcA _)).trans t2
              have u3 := ((hB3.cell (p := ⟨bs, os' + kk * 4 + 3, none⟩) hbA).trans (hcA _)).trans t3
              have hnA := heap_alloc_new w2 (.cells #[.int .i64 S[kk].no, .int .i64 S[kk].frm, .int .i64 S[kk].to, .string S[kk].txt] 32)
              have hlA : w2.heap.size < (w2.alloc (.cells #[.int .i64 S[kk].no, .int .i64 S[kk].frm, .int .i64 S[kk].to, .string S[kk].txt] 32)).heap.size := by rw [World.size_alloc]; omega
              have n0 : w3.cell? ⟨w2.heap.size, 0, none⟩ = some (.int .i64 S[kk].no) := (hB3.cell (p := ⟨w2.heap.size, 0, none⟩) hlA).trans (cell_of_row _ _ 0 _ _ _ hnA)
              have n1 : w3.cell? ⟨w2.heap.size, 1, none⟩ = some (.int .i64 S[kk].frm) := (hB3.cell (p := ⟨w2.heap.size, 1, none⟩) hlA).trans (cell_of_row _ _ 1 _ _ _ hnA)
              have n2 : w3.cell? ⟨w2.heap.size, 2, none⟩ = some (.int .i64 S[kk].to) := (hB3.cell (p := ⟨w2.heap.size, 2, none⟩) hlA).trans (cell_of_row _ _ 2 _ _ _ hnA)
              have n3 : w3.cell? ⟨w2.heap.size, 3, none⟩ = some (.string S[kk].txt) := (hB3.cell (p := ⟨w2.heap.size, 3, none⟩) hlA).trans (cell_of_row _ _ 3 _ _ _ hnA)
              have hBelow3 : Below w2.heap.size w2 w3 := ((Below.refl _ w2).alloc (Nat.le_refl _) _).trans (hB3.mono (by simp))
              have HN3 := Lib.hid hN3
              have HS3 := Lib.hid (HS2.out.fresh hBelow3)
              have HB3 := Lib.hid (HB2.out.trans (hBelow3.mono HB2.out.size))
              clear hN3 hB3 hBelow3 t0 t1 t2 t3 hnA hcA
              have hne := neqPk_self
              have hkI : (kk : Int) < (S.length : Int) := by omega
              go_wp2_with fail
              go_quiet (fail)
              go_wp2_with fail
              have hB4 : Below w3.heap.size w3 ((w3.alloc (.cells #[.int .i64 0, .int .i64 0, .int .i64 0, .string ⟨#[]⟩] 32)).drewN nq) := ((Below.refl _ w3).alloc (Nat.le_refl _) _).trans ⟨rfl, rfl, rfl, Nat.le_refl _, fun _ _ => rfl⟩
              generalize (w3.alloc (.cells #[.int .i64 0, .int .i64 0, .int .i64 0, .string ⟨#[]⟩] 32)).drewN nq = w4 at hB4 ⊢
              have z4 := (hB4.cell (p := ⟨bs, os' + kk * 4, none⟩) hb3).trans u0
              have hb4 : bs < w4.heap.size := Nat.lt_of_lt_of_le hb3 hB4.size
              have HN4 := Lib.hid (HN3.out.fresh hB4)
              have HS4 := Lib.hid (HS3.out.fresh hB4)
              have HB4 := Lib.hid (HB3.out.trans (hB4.mono HB3.out.size))
              clear u0 u1 u2 u3 n0 n1 n2 n3 hne hB4
              have hkS1 : kk + 1 ≤ S.length := hkS
              have hch : ∀ w : World, (Instr.slice 39 (.slice (some ⟨bs, os', none⟩) S.length ct) none (some (.int .i64 (kk : Int))) none).run Try.prog w = .ok (.slice (cutA (some ⟨bs, os', none⟩) ct 0 4) kk ct) w := fun w => by
                simpa using run_cut_high (P := Try.prog) Try.underlying39 sizePk (some ⟨bs, os', none⟩) S.length ct (kk : Int) (by omega) (by omega) w
              have hcl : ∀ w : World, (Instr.slice 39 (.slice (some ⟨bs, os', none⟩) S.length ct) (some (.int .i64 ((kk : Int) + 1))) none none).run Try.prog w = .ok (.slice (cutA (some ⟨bs, os', none⟩) ct (kk + 1) 4) (S.length - (kk + 1)) (ct - (kk + 1))) w := fun w => by
                have := run_cut_low (P := Try.prog) Try.underlying39 sizePk (some ⟨bs, os', none⟩) S.length ct ((kk : Int) + 1) (by omega) (by omega) w
                rwa [show ((kk : Int) + 1).toNat = kk + 1 by omega] at this
              have hsum : IntKind.i64.wrap ((kk : Int) + 1) = (kk : Int) + 1 := IntWalk.i64_in _ (by omega)
              have HSl := Lib.hid (HS4.out.sl elPk.len)
              have hS60 : S.length ≤ 60 := by omega
              go_region_held3 (fun x => x.cell? ⟨bs, os' + kk * 4, none⟩ = some (.int .i64 S[kk].no))
                (first | go_keep)
                (first
                  | (refine elPk.step _ (by rfl) (.tmp 147) (.tmp 151) (by rfl) w4.heap.size v1 _ (by rfl) hown1 _ (.slice (cutA (some ⟨bs, os', none⟩) ct (kk + 1) 4) (S.length - (kk + 1)) (ct - (kk + 1))) (S.drop (kk + 1)) (by rfl) ((HSl.out.drop_ hkS1).fresh hba.out) ?_ ?_ ?_
                     · simp only [List.nil_append, List.length_take, List.length_drop]; omega
                     · exact hba.out.size
                     intro v2 w2' hown2 hg2 hat2
                     have hbc : Hid (Below w4.heap.size w4 w2') := Lib.hid (hba.out.grown hg2 hba.out.size (fun q hq => hlow1.out q hq))
                     have z42 := (hbc.out.cell (p := ⟨bs, os' + kk * 4, none⟩) hb4).trans z4)
                  | (refine elPk.step _ (by rfl) (.tmp 143) (.tmp 146) (by rfl) w4.heap.size (.slice (some ⟨w4.heap.size, 0, none⟩) 0 0) [] (by rfl) ?g4 _ (.slice (cutA (some ⟨bs, os', none⟩) ct 0 4) kk ct) (S.take kk) (by rfl) (((HSl.out.drewN 1).take_ (Nat.le_of_lt hkS)).fresh ((Below.refl w4.heap.size w4.drew).alloc (Nat.le_refl _) _)) ?g8 ?g9 ?_
                     case g4 => exact Own.made w4.drew (Nat.le_refl _) _ _ _
                     case g8 => rw [List.length_take]; simp; omega
                     case g9 => simp
                     intro v1 w1' hown1 hg1 hat1
                     have hba : Hid (Below w4.heap.size w4 w1') := Lib.hid (((show Below w4.heap.size w4 w4.drew from ⟨rfl, rfl, rfl, Nat.le_refl _, fun _ _ => rfl⟩).alloc (Nat.le_refl _) _).grown hg1 (by simp) (fun q hq => by simp [Value.ownBlock] at hq; omega))
                     have hlow1 : Hid (∀ q, v1.ownBlock = some q → w4.heap.size ≤ q) := Lib.hid (fun q hq => by rcases hat1 with e | e <;> rw [e] at hq <;> simp [Value.ownBlock] at hq <;> omega)
                     have z41 := (hba.out.cell (p := ⟨bs, os' + kk * 4, none⟩) hb4).trans z4))
              have hrow2 := hown2
              rw [List.nil_append] at hrow2
              obtain ⟨a5, c5, rfl, _, _⟩ := hrow2.shape_ (cut_len hkS)
              go_wp2_with fail
              go_roundw
              case rel =>
                have hlow2 : ∀ q, (Value.slice a5 (S.length - 1) c5).ownBlock = some q → w4.heap.size ≤ q := fun q hq => (hrow2.lt q hq).1
                refine ⟨j + 1, S.take kk ++ S.drop (kk + 1), s.del S[kk].no, by go_num, by rw [cut_len hkS]; omega, hl60, ?_, cut_nodup HND.out _, ?_, ?_, HB4.out.trans (hbc.out.mono HB4.out.size)⟩
                · intro q
                  rw [cut_mem HND.out hkS, HME.out]
                  show _ ↔ q ∈ s.L.filter _
                  rw [List.mem_filter]
                  simp
                · exact HN4.out.slide (Keeps.of_fresh hbc.out _) (fun q hq => .inr (hlow2 q hq))
                · exact hrow2.lower HB4.out.size
              case measure => simp [sliceLen]; omega
          · have hS0 : S = [] := List.eq_nil_of_length_eq_zero (by omega)
            have hL0 : s.L = [] := List.eq_nil_iff_forall_not_mem.2 (fun q hq => by
              have := (HME.out q).2 hq
              rw [hS0] at this
              cases this)
            subst hS0
            have HL0 := Lib.hid hL0
            clear hL0
            go_wp2_with fail
            refine (lenP wr _ p s HN.out).mono ?_
            rintro e w2 ⟨he, rfl⟩
            rw [HL0.out] at he
            subst he
            go_wp2_with fail
            obtain ⟨F, hF, _⟩ := HN.out
            refine (all_any wr p s F hF (by omega)).mono ?_
            rintro e w2 ⟨v5, rfl, hB5, hS5⟩
            rw [HL0.out] at hS5
            obtain ⟨a5, c5, rfl, _⟩ := hS5.shape_ (n := 0) rfl
            have HB5 := Lib.hid (HB.out.trans (hB5.mono HB.out.size))
            clear hB5 hS5 hF
            go_wp2_with fail
            go_ret
            exact ⟨rfl, HB5.out⟩
  · have d60 : decide ((60 : Int) < (ts.length : Int)) = true := by simp; omega
    go_wp2_with fail
    go_ret
    exact ⟨rfl, HB1.out⟩
end Go.Proofs.Ytnooggfecgidcaa
