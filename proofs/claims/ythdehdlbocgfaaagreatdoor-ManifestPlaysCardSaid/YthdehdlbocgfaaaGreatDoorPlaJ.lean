/- ManifestPlays: the acts; small. Under the stated premises. -/
import Derived.Test.YthdehdlbocgfaaaGreatDoorFrmR
import Derived.Test.YthdehdlbocgfaaaGreatDoorDskY
import Derived.Test.YthdehdlbocgfaaaGreatDoorManI
import Derived.Deep.RegionHeld3
import Derived.Test.YthdehdlbocgfaaaGreatDoorDskZA
/- The document's manifest (bucketlineref10): its disk beside a fixed past; Right. Under the stated premises on sizes. -/
namespace Go.Proofs.YthdehdlbocgfaaaGreatDoor
open Go.RowKit Go.Bl
attribute [local go_sem ↓] Go.wp_at_zero Go.wp_at_succ

/-- The document's disk d at m, that keeps away from the blocks X. -/
structure Rd (X : Nat → Prop) (w : World) (m : Nat) (d : Dk) : Prop where
  hX : ∀ k, X k → k < w.heap.size
  disk : ∃ F, MdD w m d F ∧ ∀ k, F k → ¬ X k
section
variable {X : Nat → Prop} {w w' : World} {m : Nat} {d : Dk}
theorem Rd.fresh (h : Rd X w m d) (hB : Below w.heap.size w w') : Rd X w' m d := by
  obtain ⟨hX, F, hF, hd⟩ := h
  exact ⟨fun k hk => Nat.lt_of_lt_of_le (hX k hk) hB.size, F, hF.fresh hB, hd⟩
theorem Rd.keep (h : Rd X w m d) (hk : Keeps X w w') : Rd X w' m d := by
  obtain ⟨hX, F, hF, hd⟩ := h
  exact ⟨fun k h2 => Nat.lt_of_lt_of_le (hX k h2) hk.size, F, hF.keep hk hd, hd⟩
theorem Rd.more {X' : Nat → Prop} (h : Rd X w m d) (hB : Below w.heap.size w w') (hm : ∀ k, X' k → X k ∨ w.heap.size ≤ k) (hl : ∀ k, X' k → k < w'.heap.size) : Rd X' w' m d := by
  obtain ⟨hX, F, hF, hd⟩ := h
  exact ⟨hl, F, hF.fresh hB, fun k hk hx => (hm k hx).elim (hd k hk) (fun h2 => by have := hF.lt k hk; omega)⟩
theorem Rd.less {X' : Nat → Prop} (h : Rd X w m d) (hm : ∀ k, X' k → X k) : Rd X' w m d := by
  obtain ⟨hX, F, hF, hd⟩ := h
  exact ⟨fun k hk => hX k (hm k hk), F, hF, fun k hk hx => hd k hk (hm k hx)⟩
theorem Rd.nodup (h : Rd X w m d) : (d.L.map Fl.name).Nodup := by
  obtain ⟨_, F, ⟨S, _, hs⟩, _⟩ := h
  exact hs.nodup
theorem Rd.out {d' : Dk} {F : Nat → Prop} (hX : ∀ k, X k → k < w.heap.size) (hd : ∀ k, F k → ¬ X k) (h : MOut w w' m d' F) : Rd X w' m d' ∧ Kx X w w' := by
  obtain ⟨h1, h2⟩ := h
  exact ⟨⟨fun k hk => Nat.lt_of_lt_of_le (hX k hk) h1.size, _, h2, fun k hk hx => hk.elim (fun h => hd k h hx) (fun h => by have := hX k hx; omega)⟩, h1.mono (fun k _ h => hd k h)⟩
theorem appendR (h : Rd X w m d) (hl : d.L.length ≤ 1000) (ht : d.used ≤ 1000000000000) (x s : ByteArray) (hx : x.size ≤ 1000000) (hs : s.size ≤ 1000000000) :
    Calls Tryz.prog 24 #[.pointer (some ⟨m, 0, none⟩), .string x, .string s] w fun e w' => e = .returned (.int .i64 (d.app x s).1) ∧ Rd X w' m (d.app x s).2 ∧ Kx X w w' := by
  obtain ⟨hX, F, hF, hd⟩ := h
  exact (mappend_any w m d F hF hl ht x s hx hs).mono fun _ _ h => ⟨h.1, Rd.out hX hd h.2⟩
theorem renameR (h : Rd X w m d) (hl : d.L.length ≤ 1000) (x y : ByteArray) (hy : y.size ≤ 1000000) :
    Calls Tryz.prog 73 #[.pointer (some ⟨m, 0, none⟩), .string x, .string y] w fun e w' => e = .returned (.int .i64 (d.ren x y).1) ∧ Rd X w' m (d.ren x y).2 ∧ Kx X w w' := by
  obtain ⟨hX, F, hF, hd⟩ := h
  exact (mrename_any w m d F hF hl x y hy).mono fun _ _ h => ⟨h.1, Rd.out hX hd h.2⟩
theorem deleteR (h : Rd X w m d) (hl : d.L.length ≤ 1000) (x : ByteArray) :
    Calls Tryz.prog 28 #[.pointer (some ⟨m, 0, none⟩), .string x] w fun e w' => e = .returned (.int .i64 (if d.find x = none then 6 else 0)) ∧ Rd X w' m (d.del x) ∧ Kx X w w' := by
  obtain ⟨hX, F, hF, hd⟩ := h
  exact (mdelete_any w m d F hF hl x).mono fun _ _ h => ⟨h.1, Rd.out hX hd h.2⟩
theorem syncR (h : Rd X w m d) (hl : d.L.length ≤ 1000) (x : ByteArray) :
    Calls Tryz.prog 53 #[.pointer (some ⟨m, 0, none⟩), .string x] w fun e w' => e = .returned (.int .i64 (if d.find x = none then 6 else 0)) ∧ Rd X w' m (d.sync x) ∧ Kx X w w' := by
  obtain ⟨hX, F, hF, hd⟩ := h
  exact (msync_any w m d F hF hl x).mono fun _ _ h => ⟨h.1, Rd.out hX hd h.2⟩
theorem crashR (h : Rd X w m d) (hl : d.L.length ≤ 1000) (hok : ∀ f ∈ d.L, 0 ≤ f.syn ∧ f.syn ≤ f.bytes.size ∧ f.bytes.size ≤ 1073741824) (kv : Value) (keep : List Int) (hk : Sl w X 1 intc kv keep) :
    Calls Tryz.prog 26 #[.pointer (some ⟨m, 0, none⟩), kv] w fun e w' => e = .returned (.tuple #[]) ∧ ∃ ks, Names d.L ks ∧ Rd X w' m ⟨d.room, crashN keep ks d.L ks.length⟩ ∧ Kx X w w' := by
  obtain ⟨hX, F, hF, hd⟩ := h
  exact (mcrash_any w m d F X hF hl hok kv keep hk (fun k hx hf => hd k hf hx)).mono fun _ _ h => by
    obtain ⟨h1, ks, h2, h3⟩ := h
    exact ⟨h1, ks, h2, Rd.out hX hd h3⟩
theorem readR (h : Rd X w m d) (hl : d.L.length ≤ 1000) (x : ByteArray) : Calls Tryz.prog 34 #[.pointer (some ⟨m, 0, none⟩), .string x] w fun e w' => e = .returned (readV (d.find x)) ∧ Below w.heap.size w w' := by
  obtain ⟨hX, F, ⟨S, hS, hs⟩, hd⟩ := h
  rw [hs.find]
  exact mread_any w m d.room S F hS (by have := hs.perm.length_eq; omega) x
end
theorem del_len (d : Dk) (x : ByteArray) : (d.del x).L.length ≤ d.L.length := List.length_filter_le _ _
theorem app_len (d : Dk) (x s : ByteArray) : (d.app x s).2.L.length ≤ d.L.length + 1 := by
  unfold Dk.app
  split
  · exact Nat.le_succ _
  · split
    · split
      · exact Nat.le_succ _
      · split
        · exact Nat.le_succ _
        · show (d.L ++ [_]).length ≤ _
          rw [List.length_append]
          exact Nat.le_refl _
    · split
      · exact Nat.le_succ _
      · show (updL x (growF s) d.L).length ≤ _
        unfold updL
        rw [List.length_map]
        exact Nat.le_succ _
theorem sync_len (d : Dk) (x : ByteArray) : (d.sync x).L.length = d.L.length := by
  show (updL x syncF d.L).length = _
  unfold updL
  rw [List.length_map]
set_option maxRecDepth 8000 in
set_option maxHeartbeats 2000000 in
theorem right10_any (w : World) (n : Int) (v : Value) (l : List Int) (G : Nat → Prop) (h : Sl w G 1 intc v l) :
    Calls Tryz.prog 16 #[.agg #[.int .i64 n, v]] w fun e w' => e = .returned (.bool (rightB n l)) ∧ Below w.heap.size w w' := by
  obtain ⟨A, c, rfl, hA1, hA2⟩ := h.shape
  unfold maxLen at hA2
  have hB0 : Below w.heap.size w (w.alloc (.cells #[.int .i64 n, .slice A l.length c] 41)) := (Below.refl _ w).alloc (Nat.le_refl _) _
  have hblk := heap_alloc_new w (.cells #[.int .i64 n, .slice A l.length c] 41)
  have H := Lib.hid (h.fresh hB0)
  have HB := Lib.hid hB0
  have HBK := Lib.hid hblk
  clear h hB0 hblk
  go_enter Tryz.func16, Tryz.ntmps16
  go_upto_region 1 with (fail)
  obtain ⟨b, hb⟩ : ∃ b, w.heap.size = b := ⟨_, rfl⟩
  rw [hb] at HB HBK ⊢
  generalize w.alloc (.cells #[.int .i64 n, .slice A l.length c] 41) = w1 at H HB HBK ⊢
  go_wp2_with fail
  go_loopw [3, 4] (fun a i wr => ∃ (k q : Nat), k ≤ l.length ∧ a = .int .i64 (lastI 0 (l.take k)) ∧ i = .int .i64 k ∧ wr = w1.drewN q ∧ Hid (risB 0 (l.take k) = true) ∧ Hid (∀ x ∈ l.take k, x < n)) (fun _ i _ => l.length - (intOf i).toNat)
  case atStart => exact ⟨0, 0, Nat.zero_le _, rfl, rfl, rfl, Lib.hid rfl, Lib.hid (by simp)⟩
  case round =>
    obtain ⟨k, q, hk, rfl, rfl, rfl, hr, hn⟩ := hrel
    have c0 : w1.cell? ⟨b, 0, none⟩ = some (.int .i64 n) := cell_of_row w1 b 0 _ _ _ HBK.out
    have c1 : w1.cell? ⟨b, 1, none⟩ = some (.slice A l.length c) := cell_of_row w1 b 1 _ _ _ HBK.out
    have HBq := Lib.hid (below_drewN HB.out q)
    by_cases hlt : k < l.length
    · have d0 : decide ((k : Int) < (l.length : Int)) = true := by simp; omega
      obtain ⟨q2, o, rfl, _, _, hxx⟩ := H.out.cell_ hlt
      have x0 := hxx 0 _ rfl
      rw [Nat.mul_one, Nat.add_zero] at x0
      have ht := List.take_succ_eq_append_getElem hlt
      have hs1 := risB_snoc 0 (l.take k) l[k]
      have hs2 := lastI_snoc 0 (l.take k) l[k]
      rw [← ht] at hs1 hs2
      rw [hr.out, Bool.true_and] at hs1
      obtain ⟨x, hx⟩ : ∃ x, x = l[k] := ⟨_, rfl⟩
      have hmem : x ∈ l := by rw [hx]; exact List.getElem_mem hlt
      rw [← hx] at x0 hs1 hs2 ht
      obtain ⟨a, ha⟩ : ∃ a, a = lastI 0 (l.take k) := ⟨_, rfl⟩
      rw [← ha] at hs1 ⊢
      have HS1 := Lib.hid hs1
      have HS2 := Lib.hid hs2
      have HTT := Lib.hid ht
      have HM := Lib.hid hmem
      clear hxx ht hs1 hs2 hx ha hmem
      by_cases hxa : a < x
      · have d1 : decide (x ≤ a) = false := by simp; omega
        by_cases hxn : x < n
        · have d2 : decide (n ≤ x) = false := by simp; omega
          have HXN := Lib.hid hxn
          clear hxn
          go_wp2_with fail
          go_quiet (fail)
          go_wp2_with fail
          go_roundw
          case rel => exact ⟨k + 1, _, by omega, by rw [HS2.out], by go_num, rfl, Lib.hid (by rw [HS1.out]; simpa using hxa), Lib.hid (fun y hy => by rw [HTT.out] at hy; rcases List.mem_append.1 hy with hy | hy; exact hn.out y hy; rw [List.mem_singleton.1 hy]; exact HXN.out)⟩
          case measure => simp [intOf]; omega
        · have d2 : decide (n ≤ x) = true := by simp; omega
          have HXN := Lib.hid hxn
          clear hxn
          go_wp2_with fail
          go_quiet (fail)
          go_wp2_with fail
          go_ret
          have hR : rightB n l = false := by
            cases hR : rightB n l with
            | false => rfl
            | true => have h8 := ((rightB_bd hR).2.2.2 x HM.out).2; have h9 := HXN.out; omega
          rw [hR]
          exact ⟨rfl, hb ▸ below_drewN HBq.out _⟩
      · have d1 : decide (x ≤ a) = true := by simp; omega
        go_wp2_with fail
        go_quiet (fail)
        go_wp2_with fail
        go_ret
        have hf : risB 0 l = false := risB_take 0 l (k + 1) (by rw [HS1.out]; simpa using hxa)
        have : rightB n l = false := by unfold rightB; rw [hf]; rfl
        rw [this]
        exact ⟨rfl, hb ▸ below_drewN HBq.out _⟩
    · have hkl : k = l.length := by omega
      subst hkl
      have d0 : decide ((l.length : Int) < (l.length : Int)) = false := by simp
      have h2 := hr.out
      have h3 := hn.out
      rw [List.take_of_length_le (Nat.le_refl _)] at h2 h3 ⊢
      have hlast : lastI 0 l < n ↔ 1 ≤ n := by
        rcases List.eq_nil_or_concat l with rfl | ⟨l', x, rfl⟩
        · show (0 : Int) < n ↔ _
          omega
        · rw [List.concat_eq_append] at h2 h3 ⊢
          rw [lastI_snoc]
          have h4 := h3 x (by simp)
          have h5 := risB_bd 0 _ h2 x (by simp)
          omega
      have hR : Hid (rightB n l = (decide (1 ≤ n) && decide (n ≤ 1073741824) && decide (l.length ≤ 30))) := Lib.hid (by unfold rightB; rw [h2, Bool.true_and, decide_eq_decide.2 hlast])
      clear h2 h3 hlast
      by_cases t1 : 1 ≤ n
      · have t1' : decide (1 ≤ n) = true := by simpa using t1
        by_cases t2 : n ≤ 1073741824
        · have t2' : decide (n ≤ 1073741824) = true := by simpa using t2
          by_cases t3 : l.length ≤ 30
          · have t3' : decide ((l.length : Int) ≤ 30) = true := by simp; omega
            have hv : rightB n l = true := by rw [hR.out, t1', t2', decide_eq_true t3]; rfl
            go_wp2_with fail
            go_ret
            exact ⟨by first | rfl | (rw [hv]; rfl), hb ▸ HBq.out⟩
          · have t3' : decide ((l.length : Int) ≤ 30) = false := by simp; omega
            have hv : rightB n l = false := by rw [hR.out, decide_eq_false t3, Bool.and_false]
            go_wp2_with fail
            go_ret
            exact ⟨by first | rfl | (rw [hv]; rfl), hb ▸ HBq.out⟩
        · have t2' : decide (n ≤ 1073741824) = false := by simpa using t2
          have hv : rightB n l = false := by rw [hR.out, t2', Bool.and_false, Bool.false_and]
          go_wp2_with fail
          go_ret
          exact ⟨rfl, hb ▸ HBq.out⟩
      · have t1' : decide (1 ≤ n) = false := by simpa using t1
        have hv : rightB n l = false := by rw [hR.out, t1', Bool.false_and, Bool.false_and]
        go_wp2_with fail
        go_ret
        exact ⟨rfl, hb ▸ HBq.out⟩
set_option maxRecDepth 8000 in
set_option maxHeartbeats 2000000 in
theorem writeR {X : Nat → Prop} {w : World} {m : Nat} {d : Dk} (h : Rd X w m d) (hl : d.L.length ≤ 100) (hu : d.used ≤ 1000000000000) (x s : ByteArray) (hx : x.size ≤ 1000000) (hs : s.size ≤ 1000000000) :
    Calls Tryz.prog 51 #[.pointer (some ⟨m, 0, none⟩), .string x, .string s] w fun e w' => e = .returned (.int .i64 (d.wr x s).1) ∧ Rd X w' m (d.wr x s).2 ∧ Kx X w w' := by
  have H := Lib.hid h
  have l1 := del_len d sTemp
  have u1 := used_del d sTemp
  have l2 := app_len (d.del sTemp) sTemp s
  have l3 := sync_len ((d.del sTemp).app sTemp s).2 sTemp
  have L1 : Hid ((d.del sTemp).L.length ≤ 1000) := Lib.hid (by omega)
  have L2 : Hid (((d.del sTemp).app sTemp s).2.L.length ≤ 1000) := Lib.hid (by omega)
  have L3 : Hid ((((d.del sTemp).app sTemp s).2.sync sTemp).L.length ≤ 1000) := Lib.hid (by omega)
  have U1 : Hid ((d.del sTemp).used ≤ 1000000000000) := Lib.hid (by omega)
  have L0 : Hid (d.L.length ≤ 1000) := Lib.hid (by omega)
  clear h l1 u1 l2 l3 hl hu
  have Hx := Lib.hid hx
  have Hs := Lib.hid hs
  clear hx hs
  go_enter Tryz.func51, Tryz.ntmps51
  go_wp2_with fail
  refine (deleteR H.out L0.out ⟨#[116, 101, 109, 112]⟩).mono ?_
  rintro e w1 ⟨rfl, h1, k1⟩
  have K1 := Lib.hid k1
  clear k1
  have H1 := Lib.hid h1
  obtain ⟨ev, hev⟩ : ∃ ev : Int, (if d.find ⟨#[116, 101, 109, 112]⟩ = none then (6 : Int) else 0) = ev := ⟨_, rfl⟩
  rw [hev]
  clear h1 hev
  go_wp2_with fail
  refine (appendR H1.out L1.out U1.out ⟨#[116, 101, 109, 112]⟩ s (by decide) Hs.out).mono ?_
  rintro e w2 ⟨rfl, h2, k2⟩
  have K2 := Lib.hid (K1.out.trans k2)
  clear k2
  obtain ⟨er, her⟩ : ∃ ev : Int, ((d.del ⟨#[116, 101, 109, 112]⟩).app ⟨#[116, 101, 109, 112]⟩ s).1 = ev := ⟨_, rfl⟩
  obtain ⟨d2, hd2⟩ : ∃ ev : Dk, ((d.del ⟨#[116, 101, 109, 112]⟩).app ⟨#[116, 101, 109, 112]⟩ s).2 = ev := ⟨_, rfl⟩
  rw [hd2] at h2
  rw [show ((d.del sTemp).app sTemp s).2 = d2 from hd2] at L2 L3
  rw [her]
  have H2 := Lib.hid h2
  have HW : Hid (d.wr x s = if er = 0 then (d2.sync sTemp).ren sTemp x else (er, d2.del sTemp)) := Lib.hid (by unfold Dk.wr; rw [← her, ← hd2]; rfl)
  clear h2 her hd2
  by_cases e0 : er = 0
  · have HW0 : Hid (d.wr x s = (d2.sync sTemp).ren sTemp x) := Lib.hid (by rw [HW.out, if_pos e0])
    clear HW
    subst e0
    go_wp2_with fail
    refine (syncR H2.out L2.out ⟨#[116, 101, 109, 112]⟩).mono ?_
    rintro e w3 ⟨rfl, h3, k3⟩
    have K3 := Lib.hid (K2.out.trans k3)
    clear k3
    have H3 := Lib.hid h3
    obtain ⟨ev, hev⟩ : ∃ ev : Int, (if d2.find ⟨#[116, 101, 109, 112]⟩ = none then (6 : Int) else 0) = ev := ⟨_, rfl⟩
    rw [hev]
    clear h3 hev
    go_wp2_with fail
    refine (renameR H3.out L3.out ⟨#[116, 101, 109, 112]⟩ x Hx.out).mono ?_
    rintro e w4 ⟨rfl, h4, k4⟩
    have K4 := Lib.hid (K3.out.trans k4)
    clear k4
    have H4 := Lib.hid h4
    clear h4
    obtain ⟨er, her⟩ : ∃ ev : Int, ((d2.sync ⟨#[116, 101, 109, 112]⟩).ren ⟨#[116, 101, 109, 112]⟩ x).1 = ev := ⟨_, rfl⟩
    rw [her]
    have HR := Lib.hid her
    clear her
    go_wp2_with fail
    go_ret
    rw [HW0.out]
    exact ⟨by rw [← HR.out]; rfl, H4.out, K4.out⟩
  · have HW0 : Hid (d.wr x s = (er, d2.del sTemp)) := Lib.hid (by rw [HW.out, if_neg e0])
    have d0 : (er != 0) = true := by simpa using e0
    clear HW e0
    go_wp2_with fail
    refine (deleteR H2.out L2.out ⟨#[116, 101, 109, 112]⟩).mono ?_
    rintro e w3 ⟨rfl, h3, k3⟩
    have K3 := Lib.hid (K2.out.trans k3)
    clear k3
    have H3 := Lib.hid h3
    obtain ⟨ev, hev⟩ : ∃ ev : Int, (if d2.find ⟨#[116, 101, 109, 112]⟩ = none then (6 : Int) else 0) = ev := ⟨_, rfl⟩
    rw [hev]
    clear h3 hev
    go_wp2_with fail
    go_ret
    rw [HW0.out]
    exact ⟨rfl, H3.out, K3.out⟩
end Go.Proofs.YthdehdlbocgfaaaGreatDoor

/- The document's manifest: bytes, Save. Under the stated premises on sizes. -/
namespace Go.Proofs.YthdehdlbocgfaaaGreatDoor
open Go.RowKit Go.Bl
attribute [local go_sem ↓] Go.wp_at_zero Go.wp_at_succ

theorem rput_pb (w : World) (n : Int) (h0 : 0 ≤ n) (h1 : n ≤ 1099511627776) : Calls Tryz.prog 55 #[.int .i64 n] w fun e w' => e = .returned (.string (Bl (pb n))) ∧ Below w.heap.size w w' :=
  rput_any w n n.toNat (by unfold gmax gmin; omega)
set_option maxRecDepth 8000 in
set_option maxHeartbeats 4000000 in
theorem rbytes_any (w : World) (n : Int) (v : Value) (l : List Int) (G : Nat → Prop) (h : Sl w G 1 intc v l) (hr : rightB n l = true) :
    Calls Tryz.prog 52 #[.agg #[.int .i64 n, v]] w fun e w' => e = .returned (.string (Bl (frmL crcU (manL n l)))) ∧ Below w.heap.size w w' := by
  obtain ⟨hn1, hn2, hl30, hx⟩ := rightB_bd hr
  have hsz := man_size hr
  have hfl := flat_len l (fun x hx' => by have := hx x hx'; omega)
  obtain ⟨A, c, rfl, hA1, hA2⟩ := h.shape
  unfold maxLen at hA2
  have hB0 : Below w.heap.size w (w.alloc (.cells #[.int .i64 n, .slice A l.length c] 41)) := (Below.refl _ w).alloc (Nat.le_refl _) _
  have hblk := heap_alloc_new w (.cells #[.int .i64 n, .slice A l.length c] 41)
  have H := Lib.hid (h.fresh hB0)
  have HB := Lib.hid hB0
  have HBK := Lib.hid hblk
  have HX := Lib.hid hx
  have HSZ := Lib.hid hsz
  have HFL := Lib.hid hfl
  clear h hB0 hblk hx hr hsz hfl
  go_enter Tryz.func52, Tryz.ntmps52
  go_upto_region 1 with (fail)
  obtain ⟨b, hb⟩ : ∃ b, w.heap.size = b := ⟨_, rfl⟩
  rw [hb] at HB HBK ⊢
  generalize w.alloc (.cells #[.int .i64 n, .slice A l.length c] 41) = w1 at H HB HBK ⊢
  have c0 : w1.cell? ⟨b, 0, none⟩ = some (.int .i64 n) := cell_of_row w1 b 0 _ _ _ HBK.out
  have c1 : w1.cell? ⟨b, 1, none⟩ = some (.slice A l.length c) := cell_of_row w1 b 1 _ _ _ HBK.out
  have hp1 := (pb_len (n := n) (by omega)).2
  have hp2 := (pb_len (n := (l.length : Int)) (by omega)).2
  have hnov : ¬ 9223372036854775807 < (Bl (pb n)).size + (Bl (pb l.length)).size := by rw [Bl_size, Bl_size]; omega
  have C1 := Lib.hid (fun W => rput_pb W n (by omega) (by omega))
  have C2 := Lib.hid (fun W => rput_pb W (l.length : Int) (by omega) (by omega))
  have HA := Lib.hid (show Below w1.heap.size w1 w1.drew from ⟨rfl, rfl, rfl, Nat.le_refl _, fun _ _ => rfl⟩)
  go_cut [3] (fun s3 wx => s3 = .string (Bl (pb n) ++ Bl (pb l.length)) ∧ Below w1.heap.size w1 wx)
  case first =>
    go_region_held3 (fun x => x.cell? ⟨b, 0, none⟩ = some (.int .i64 n) ∧ x.cell? ⟨b, 1, none⟩ = some (.slice A l.length c))
      (first | exact ⟨by assumption, by assumption⟩ | go_keep)
      (first
        | (go_at_call 55
           with_reducible refine (C1.out _).mono ?_
           rintro e w2 ⟨rfl, hB2⟩
           have c0 := (hB2.cell (p := ⟨b, 0, none⟩) (World.block_lt_of_cell? _ _ c0)).trans c0
           have c1 := (hB2.cell (p := ⟨b, 1, none⟩) (World.block_lt_of_cell? _ _ c1)).trans c1
           have HA := Lib.hid (HA.out.trans (hB2.mono HA.out.size))
           clear hB2
          )
        | (go_at_call 55
           with_reducible refine (C2.out _).mono ?_
           rintro e w2 ⟨rfl, hB2⟩
           have c0 := (hB2.cell (p := ⟨b, 0, none⟩) (World.block_lt_of_cell? _ _ c0)).trans c0
           have c1 := (hB2.cell (p := ⟨b, 1, none⟩) (World.block_lt_of_cell? _ _ c1)).trans c1
           have HA := Lib.hid (HA.out.trans (hB2.mono HA.out.size))
           clear hB2
          ))
    go_wp2_with fail
    go_meet
    exact ⟨rfl, HA.out⟩
  case rest =>
    obtain ⟨rfl, hB2⟩ := hcut
    have HBc := Lib.hid hB2
    have H2 := Lib.hid (H.out.fresh hB2)
    have hbl := (Array.getElem?_eq_some_iff.1 HBK.out).1
    have HBK2 := Lib.hid ((hB2.block b hbl).trans HBK.out)
    clear hB2 c0 c1 hnov C1 C2 HA hbl
    go_wp2_with fail
    go_loopw [3, 4] (fun s i wr => ∃ k : Nat, k ≤ l.length ∧ s = .string (Bl (pb n) ++ Bl (pb l.length) ++ Bl ((l.take k).flatMap pb)) ∧ i = .int .i64 k ∧ Below wc.heap.size wc wr) (fun _ i _ => l.length - (intOf i).toNat)
    case atStart => exact ⟨0, Nat.zero_le _, by rw [List.take_zero, ← Bl_append, ← Bl_append]; simp, rfl, Below.refl _ _⟩
    case round =>
      obtain ⟨k, hk, rfl, rfl, hB3⟩ := hrel
      have hbl := (Array.getElem?_eq_some_iff.1 HBK2.out).1
      have c1 : wr.cell? ⟨b, 1, none⟩ = some (.slice A l.length c) := cell_of_row wr b 1 _ _ _ ((hB3.block b hbl).trans HBK2.out)
      have HB3 := Lib.hid hB3
      clear hbl hB3
      by_cases hlt : k < l.length
      · have d0 : decide ((k : Int) < (l.length : Int)) = true := by simp; omega
        obtain ⟨q, o, rfl, _, _, hxx⟩ := (H2.out.fresh HB3.out).cell_ hlt
        have x0 := hxx 0 _ rfl
        rw [Nat.mul_one, Nat.add_zero] at x0
        have hx := HX.out l[k] (List.getElem_mem hlt)
        have ht := List.take_succ_eq_append_getElem hlt
        obtain ⟨x, hxe⟩ : ∃ x, x = l[k] := ⟨_, rfl⟩
        rw [← hxe] at x0 hx ht
        have h6 := (pb_len (n := x) (by omega)).2
        have hf2 : ((l.take k).flatMap pb).length ≤ 180 := by
          have := flat_len (l.take k) (fun y hy => by have := HX.out y (List.mem_of_mem_take hy); omega)
          rw [List.length_take] at this
          omega
        have hnov : ¬ 9223372036854775807 < (Bl (pb n) ++ Bl (pb l.length) ++ Bl ((l.take k).flatMap pb)).size + (Bl (pb x)).size := by
          rw [ByteArray.size_append, ByteArray.size_append, Bl_size, Bl_size, Bl_size, Bl_size]; omega
        have hc := rput_pb wr x (by omega) (by omega)
        have HT := Lib.hid ht
        obtain ⟨S, hS⟩ : ∃ S, Bl (pb n) ++ Bl (pb l.length) ++ Bl ((l.take k).flatMap pb) = S := ⟨_, rfl⟩
        rw [hS] at hnov ⊢
        have HSS := Lib.hid hS
        clear hxx ht hxe hf2 h6 hS
        go_wp2_with fail
        refine hc.mono ?_
        rintro e w4 ⟨rfl, hB4⟩
        go_wp2_with fail
        go_roundw
        case rel => exact ⟨k + 1, by omega, by rw [HT.out, List.flatMap_append, ← HSS.out, Bl_append, ByteArray.append_assoc]; simp, by go_num, HB3.out.trans (hB4.mono HB3.out.size)⟩
        case measure => simp [intOf]; omega
      · have hkl : k = l.length := by omega
        subst hkl
        have d0 : decide ((l.length : Int) < (l.length : Int)) = false := by simp
        have hm : Bl (pb n) ++ Bl (pb l.length) ++ Bl ((l.take l.length).flatMap pb) = Bl (manL n l) := by
          rw [List.take_of_length_le (Nat.le_refl _), ← Bl_append, ← Bl_append]
          rfl
        rw [hm]
        have h0 := (pb_len (n := n) (by omega)).1
        have hs1 : (Bl (manL n l)).size ≤ 8000 ∧ 0 < (Bl (manL n l)).size := by
          have hfl := HFL.out
          show (manL n l).length ≤ 8000 ∧ 0 < (manL n l).length
          unfold manL
          rw [List.length_append, List.length_append]
          omega
        have hc := rframePut_any wr (Bl (manL n l)) hs1.2 hs1.1
        rw [Lb_Bl] at hc
        have HC := Lib.hid hc
        clear hm h0 hs1 hc
        go_wp2_with fail
        refine HC.out.mono ?_
        rintro e w4 ⟨rfl, hB4⟩
        go_wp2_with fail
        go_ret
        have hw1 : Below w.heap.size w w1 := by rw [hb]; exact HB.out
        exact ⟨rfl, (hw1.trans (HBc.out.mono hw1.size)).trans ((HB3.out.trans (hB4.mono HB3.out.size)).mono (Nat.le_trans hw1.size HBc.out.size))⟩
set_option maxRecDepth 8000 in
set_option maxHeartbeats 4000000 in
theorem saveR {X : Nat → Prop} {w : World} {m : Nat} {d : Dk} (h : Rd X w m d) (hl : d.L.length ≤ 100) (hu : d.used ≤ 1000000000000) (n : Int) (v : Value) (l : List Int) (G : Nat → Prop) (hs : Sl w G 1 intc v l) :
    Calls Tryz.prog 21 #[.pointer (some ⟨m, 0, none⟩), .agg #[.int .i64 n, v]] w fun e w' => e = .returned (.int .i64 (d.save n l).1) ∧ Rd X w' m (d.save n l).2 ∧ Kx X w w' := by
  obtain ⟨A, c, rfl, hA1, hA2⟩ := hs.shape
  unfold maxLen at hA2
  have hB0 : Below w.heap.size w (w.alloc (.cells #[.int .i64 n, .slice A l.length c] 41)) := (Below.refl _ w).alloc (Nat.le_refl _) _
  have hblk := heap_alloc_new w (.cells #[.int .i64 n, .slice A l.length c] 41)
  have HS := Lib.hid (hs.fresh hB0)
  have HB := Lib.hid hB0
  have HBK := Lib.hid hblk
  have H := Lib.hid (h.fresh hB0)
  clear h hs hB0 hblk
  go_enter Tryz.func21, Tryz.ntmps21
  go_upto_region 1 with (fail)
  obtain ⟨b, hb⟩ : ∃ b, w.heap.size = b := ⟨_, rfl⟩
  rw [hb] at HB HBK ⊢
  generalize w.alloc (.cells #[.int .i64 n, .slice A l.length c] 41) = w1 at H HS HB HBK ⊢
  have c0 : w1.cell? ⟨b, 0, none⟩ = some (.int .i64 n) := cell_of_row w1 b 0 _ _ _ HBK.out
  have c1 : w1.cell? ⟨b, 1, none⟩ = some (.slice A l.length c) := cell_of_row w1 b 1 _ _ _ HBK.out
  go_wp2_with fail
  refine (right10_any w1 n _ l G HS.out).mono ?_
  rintro e w2 ⟨rfl, hB2⟩
  have HB2 := Lib.hid (HB.out.trans (hB2.mono (hb ▸ HB.out.size)))
  have H2 := Lib.hid (H.out.fresh hB2)
  have HS2 := Lib.hid (HS.out.fresh hB2)
  have hbl := (Array.getElem?_eq_some_iff.1 HBK.out).1
  have HBK2 := Lib.hid ((hB2.block b hbl).trans HBK.out)
  clear hB2 c0 c1
  cases hR : rightB n l with
  | false =>
    go_wp2_with fail
    go_ret
    have e1 : d.save n l = (1, d) := by unfold Dk.save; rw [if_neg (by rw [hR]; decide)]
    rw [e1]
    exact ⟨rfl, H2.out, Kx.of_below (hb ▸ HB2.out)⟩
  | true =>
    have HR := Lib.hid hR
    have hm := man_size hR
    obtain ⟨hn1, hn2, hl30, hx⟩ := rightB_bd hR
    have c0 : w2.cell? ⟨b, 0, none⟩ = some (.int .i64 n) := cell_of_row w2 b 0 _ _ _ HBK2.out
    have c1 : w2.cell? ⟨b, 1, none⟩ = some (.slice A l.length c) := cell_of_row w2 b 1 _ _ _ HBK2.out
    clear hR hx
    go_wp2_with fail
    refine (rbytes_any w2 n _ l G HS2.out HR.out).mono ?_
    rintro e w3 ⟨rfl, hB3⟩
    have H3 := Lib.hid (H2.out.fresh hB3)
    have hw2 : Below w.heap.size w w2 := by rw [hb]; exact HB2.out
    have HB3 := Lib.hid (hw2.trans (hB3.mono hw2.size))
    clear hB3 hw2 c0 c1
    go_wp2_with fail
    refine (writeR H3.out hl hu sFile _ (by decide) (by omega)).mono ?_
    rintro e w4 ⟨rfl, h4, hk⟩
    rw [← save_is HR.out] at h4 ⊢
    have H4 := Lib.hid h4
    have HK := Lib.hid ((Kx.of_below HB3.out).trans hk)
    clear h4 hk
    go_wp2_with fail
    go_ret
    exact ⟨rfl, H4.out, HK.out⟩
end Go.Proofs.YthdehdlbocgfaaaGreatDoor

/- The document's manifest: all numbers of a payload; how that is the same as what Load reads, in plain words. Under the stated premises. -/
namespace Go.Proofs.YthdehdlbocgfaaaGreatDoor
open Go.RowKit Go.Bl
attribute [local go_sem ↓] Go.wp_at_zero Go.wp_at_succ

/-- All numbers of bytes; are they numbers alone? -/
def nmF : Nat → List UInt8 → List Int × Bool
  | 0, s => ([], decide (s = []))
  | f + 1, s => if s = [] then ([], true) else if (tkN s).2.2 = 0 then ((tkN s).1 :: (nmF f (tkN s).2.1).1, (nmF f (tkN s).2.1).2) else ([], false)
theorem nmF_fuel : ∀ (f g : Nat) (s : List UInt8), s.length ≤ f → f ≤ g → nmF g s = nmF f s
  | 0, 0, _, _, _ => rfl
  | 0, g + 1, s, h, _ => by
    obtain rfl := List.length_eq_zero_iff.1 (Nat.le_zero.1 h)
    rfl
  | f + 1, 0, _, _, h => by omega
  | f + 1, g + 1, s, h, hg => by
    unfold nmF
    by_cases e : s = []
    · rw [if_pos e, if_pos e]
    · rw [if_neg e, if_neg e]
      by_cases e2 : (tkN s).2.2 = 0
      · have := tkN_less e2
        rw [if_pos e2, if_pos e2, nmF_fuel f g _ (by omega) (by omega)]
      · rw [if_neg e2, if_neg e2]
def nmS (s : List UInt8) : List Int × Bool := nmF s.length s
theorem nmS_nil : nmS [] = ([], true) := rfl
theorem nmS_cons {s : List UInt8} (h : (tkN s).2.2 = 0) : nmS s = ((tkN s).1 :: (nmS (tkN s).2.1).1, (nmS (tkN s).2.1).2) := by
  have hl := tkN_less h
  have hne : s ≠ [] := fun e => by rw [e] at hl; simp at hl
  obtain ⟨f, hf⟩ : ∃ f, s.length = f + 1 := ⟨s.length - 1, by omega⟩
  unfold nmS
  rw [hf]
  show (if s = [] then _ else _) = _
  rw [if_neg hne, if_pos h, nmF_fuel (tkN s).2.1.length f _ (Nat.le_refl _) (by omega)]
theorem nmS_bad {s : List UInt8} (hne : s ≠ []) (h : (tkN s).2.2 ≠ 0) : nmS s = ([], false) := by
  obtain ⟨f, hf⟩ : ∃ f, s.length = f + 1 := ⟨s.length - 1, by have := List.length_pos_iff.2 hne; omega⟩
  unfold nmS
  rw [hf]
  show (if s = [] then _ else _) = _
  rw [if_neg hne, if_neg h]
theorem tkN_nil : (tkN []).2.2 = 3 := rfl
theorem nums_nmS : ∀ (m : Nat) (s : List UInt8) (l : List Int), numsF m s = (l, [], 0) → nmS s = (l, true) ∧ l.length = m
  | 0, s, l, h => by
    unfold numsF at h
    obtain ⟨rfl, h2⟩ := Prod.mk.inj h
    obtain ⟨rfl, _⟩ := Prod.mk.inj h2
    exact ⟨nmS_nil, rfl⟩
  | m + 1, s, l, h => by
    unfold numsF at h
    by_cases e : (tkN s).2.2 = 0
    · rw [if_pos e] at h
      obtain ⟨rfl, h2⟩ := Prod.mk.inj h
      have ih := nums_nmS m (tkN s).2.1 (numsF m (tkN s).2.1).1 (by rw [← h2])
      rw [nmS_cons e, ih.1]
      exact ⟨rfl, by rw [List.length_cons, ih.2]⟩
    · rw [if_neg e] at h
      obtain ⟨_, h2⟩ := Prod.mk.inj h
      exact absurd (Prod.mk.inj h2).2 e
theorem nmS_nums : ∀ (f : Nat) (s : List UInt8), s.length ≤ f → (nmS s).2 = true → numsF (nmS s).1.length s = ((nmS s).1, [], 0)
  | f, s, hf, h => by
    by_cases e0 : s = []
    · subst e0
      rfl
    · by_cases e : (tkN s).2.2 = 0
      · have hl := tkN_less e
        rw [nmS_cons e] at h ⊢
        match f, hf with
        | 0, hf => exact absurd (List.length_eq_zero_iff.1 (Nat.le_zero.1 hf)) e0
        | f + 1, hf =>
          have ih := nmS_nums f (tkN s).2.1 (by omega) h
          rw [List.length_cons]
          unfold numsF
          rw [if_pos e]
          simp only [ih]
      · rw [nmS_bad e0 e] at h
        cases h
/-- What the document's Load reads of a file. -/
def docF (s : List UInt8) : Int × List Int × Bool :=
  match (nmS (tkF crcU s).1).1 with
  | n :: c :: l => (n, l, decide ((tkF crcU s).2.2 = 0) && decide ((tkF crcU s).2.1 = []) && (nmS (tkF crcU s).1).2 && decide (c = l.length) && rightB n l)
  | _ => (0, [], false)
theorem docF_of {s : List UInt8} (h : (ldF s).2.2 = true) : docF s = ((ldF s).1, (ldF s).2.1, true) := by
  have hr := h
  unfold ldF ldP at h hr ⊢
  simp only [Bool.and_eq_true, decide_eq_true_eq] at h
  obtain ⟨⟨⟨h1, h2⟩, h3⟩, h4⟩ := h
  obtain ⟨P, R, E, hT⟩ : ∃ P R E, tkF crcU s = (P, R, E) := ⟨_, _, _, rfl⟩
  rw [hT] at h1 h2 h3 h4 hr ⊢
  obtain ⟨n, P1, e1, hn⟩ : ∃ n P1 e1, tkN P = (n, P1, e1) := ⟨_, _, _, rfl⟩
  simp only [hn] at h1 h2 h4 hr ⊢
  obtain ⟨c, P2, e2, hc⟩ : ∃ n P2 e1, tkN P1 = (n, P2, e1) := ⟨_, _, _, rfl⟩
  simp only [hc] at h1 h2 h4 hr ⊢
  have h3' : R = [] := h3
  by_cases z : andE (andE E e1) e2 = 0
  · have z1 : E = 0 ∧ e1 = 0 ∧ e2 = 0 := by
      unfold andE at z
      by_cases q : E = 0
      · rw [if_pos q] at z
        by_cases q1 : e1 = 0
        · rw [if_pos q1] at z; exact ⟨q, q1, z⟩
        · rw [if_neg q1] at z; exact absurd z q1
      · rw [if_neg q] at z
        rw [if_neg q] at z
        exact absurd z q
    obtain ⟨rfl, rfl, rfl⟩ := z1
    rw [z] at h1 h2 h4 hr ⊢
    have hE : ∀ m t, numsE 0 m t = numsF m t := fun m t => if_pos rfl
    rw [hE] at h1 h2 h4 hr ⊢
    obtain ⟨l, P3, e3, hl⟩ : ∃ n P1 e1, numsF c.toNat P2 = (n, P1, e1) := ⟨_, _, _, rfl⟩
    rw [hl] at h1 h2 h4 hr ⊢
    have h1' : e3 = 0 := h1
    have h2' : P3 = [] := h2
    subst h1' h2' h3'
    have hk := nums_nmS _ _ _ hl
    have hcb := (tkN_bd P1).1
    rw [hc] at hcb
    have hnm : nmS P = (n :: c :: l, true) := by
      rw [nmS_cons (by rw [hn]), hn]
      show (n :: (nmS P1).1, (nmS P1).2) = _
      rw [nmS_cons (by rw [hc]), hc]
      show (n :: c :: (nmS P2).1, (nmS P2).2) = _
      rw [hk.1]
    have hcl : c = (l.length : Int) := by
      have hcb' : 0 ≤ c := hcb
      rw [hk.2]; omega
    have h4' : rightB n l = true := h4
    unfold docF
    rw [hT]
    simp only [hnm]
    rw [decide_eq_true hcl, h4']
    rfl
  · have hE : ∀ m t, numsE (andE (andE E e1) e2) m t = ([], t, andE (andE E e1) e2) := fun m t => if_neg z
    rw [hE] at h1
    exact absurd h1 z
theorem docF_ok {s : List UInt8} (h : (docF s).2.2 = true) : (ldF s).2.2 = true := by
  unfold docF at h
  obtain ⟨P, R, E, hT⟩ : ∃ P R E, tkF crcU s = (P, R, E) := ⟨_, _, _, rfl⟩
  rw [hT] at h
  match hm : (nmS P).1 with
  | [] => simp only [hm] at h; cases h
  | [_] => simp only [hm] at h; cases h
  | n :: c :: l =>
    simp only [hm, Bool.and_eq_true, decide_eq_true_eq] at h
    obtain ⟨⟨⟨⟨rfl, rfl⟩, h3⟩, h4⟩, h5⟩ := h
    have e0 : (tkN P).2.2 = 0 := by
      by_cases e : (tkN P).2.2 = 0
      · exact e
      · by_cases q : P = []
        · rw [q, nmS_nil] at hm; cases hm
        · rw [nmS_bad q e] at hm; cases hm
    obtain ⟨n', P1, e1, hn⟩ : ∃ n P1 e1, tkN P = (n, P1, e1) := ⟨_, _, _, rfl⟩
    rw [nmS_cons e0, hn] at hm h3
    rw [hn] at e0
    have hA : n' :: (nmS P1).1 = n :: c :: l := hm
    have hB : (nmS P1).2 = true := h3
    have hC : e1 = 0 := e0
    clear hm h3 e0
    obtain ⟨rfl, hD⟩ := List.cons.inj hA
    have f0 : (tkN P1).2.2 = 0 := by
      by_cases e : (tkN P1).2.2 = 0
      · exact e
      · by_cases q : P1 = []
        · rw [q, nmS_nil] at hD; cases hD
        · rw [nmS_bad q e] at hD; cases hD
    obtain ⟨c', P2, e2, hc⟩ : ∃ n P2 e1, tkN P1 = (n, P2, e1) := ⟨_, _, _, rfl⟩
    rw [nmS_cons f0, hc] at hD hB
    rw [hc] at f0
    have hA2 : c' :: (nmS P2).1 = c :: l := hD
    have hB2 : (nmS P2).2 = true := hB
    have hC2 : e2 = 0 := f0
    clear hD hB f0 hA
    obtain ⟨rfl, hD2⟩ := List.cons.inj hA2
    subst hC hC2
    have hk := nmS_nums _ P2 (Nat.le_refl _) hB2
    rw [hD2] at hk
    have hct : c'.toNat = l.length := by
      have h4' : c' = (l.length : Int) := h4
      omega
    unfold ldF ldP
    rw [hT]
    simp only [hn, hc]
    have hE : numsE (andE (andE 0 0) 0) c'.toNat P2 = (l, [], 0) := by
      show (if (0 : Int) = 0 then numsF c'.toNat P2 else _) = _
      rw [if_pos rfl, hct, hk]
    rw [hE]
    have h5' : rightB n' l = true := h5
    simp only [h5']
    rfl
theorem ldF_get {s : List UInt8} (h : (ldF s).2.2 = true) : ∃ n c l, nmS (tkF crcU s).1 = (n :: c :: l, true) ∧ (tkF crcU s).2.2 = 0 ∧ (tkF crcU s).2.1 = [] ∧ c = (l.length : Int) ∧ rightB n l = true ∧ ldF s = (n, l, true) := by
  have hd := docF_of h
  have he : ldF s = ((ldF s).1, (ldF s).2.1, true) := by rw [← h]
  unfold docF at hd
  match hm : (nmS (tkF crcU s).1).1 with
  | [] => simp only [hm] at hd; have := congrArg (fun q => q.2.2) hd; cases this
  | [_] => simp only [hm] at hd; have := congrArg (fun q => q.2.2) hd; cases this
  | n :: c :: l =>
    simp only [hm] at hd
    obtain ⟨h1, h2⟩ := Prod.mk.inj hd
    obtain ⟨h2, h3⟩ := Prod.mk.inj h2
    simp only [Bool.and_eq_true, decide_eq_true_eq] at h3
    obtain ⟨⟨⟨⟨q1, q2⟩, q3⟩, q4⟩, q5⟩ := h3
    exact ⟨n, c, l, by rw [← hm, ← q3], q1, q2, q4, q5, by rw [he, ← h1, ← h2]⟩
theorem ldF_mk {s : List UInt8} {n c : Int} {l : List Int} (hm : nmS (tkF crcU s).1 = (n :: c :: l, true)) (h1 : (tkF crcU s).2.2 = 0) (h2 : (tkF crcU s).2.1 = []) (h3 : c = (l.length : Int)) (h4 : rightB n l = true) : ldF s = (n, l, true) := by
  have hd : docF s = (n, l, true) := by
    unfold docF
    simp only [hm]
    rw [h1, h2, decide_eq_true h3, h4]
    rfl
  have hk := docF_ok (s := s) (by rw [hd])
  have he := docF_of hk
  rw [hd] at he
  obtain ⟨e1, e2⟩ := Prod.mk.inj he
  obtain ⟨e2, _⟩ := Prod.mk.inj e2
  have : ldF s = ((ldF s).1, (ldF s).2.1, (ldF s).2.2) := rfl
  rw [this, hk, ← e1, ← e2]
/-- What Load tells of a disk's file: the number, the segments, the error. -/
def ldV (o : Option Fl) : Int × List Int × Int := match o with | none => (1, [], 0) | some f => if (ldF (Lb f.bytes)).2.2 = true then ((ldF (Lb f.bytes)).1, (ldF (Lb f.bytes)).2.1, 0) else (0, [], 2)
end Go.Proofs.YthdehdlbocgfaaaGreatDoor

/- The document's manifest: numbers, Load. Under the stated premises on sizes. -/
namespace Go.Proofs.YthdehdlbocgfaaaGreatDoor
open Go.RowKit Go.Bl
attribute [local go_sem ↓] Go.wp_at_zero Go.wp_at_succ

def numOut (r : List Int × Bool) : List Int := if r.2 = true then r.1 else []
set_option maxRecDepth 8000 in
set_option maxHeartbeats 2000000 in
theorem rnums_any (w : World) (s : ByteArray) (hs : s.size ≤ 1000000) : Calls Tryz.prog 41 #[.string s] w fun e w' => ∃ v, e = .returned (.tuple #[v, .bool (nmS (Lb s)).2]) ∧ Sl w' (fun k => w.heap.size ≤ k) 1 intc v (numOut (nmS (Lb s))) ∧ Below w.heap.size w w' := by
  go_enter Tryz.func41, Tryz.ntmps41
  go_wp2_with fail
  go_loopw [0, 4] (fun t v wr => ∃ (done : List Int) (S : ByteArray), Hid (nmS (Lb s) = (done ++ (nmS (Lb S)).1, (nmS (Lb S)).2)) ∧ done.length + S.size ≤ s.size ∧ t = .string S ∧ Go.Bl.Own wr w.heap.size 3 1 intc v done ∧ Below w.heap.size w wr) (fun t _ _ => strSize t)
  case atStart => exact ⟨[], s, Lib.hid rfl, by simp, rfl, Go.Bl.Own.nil_ _ _ _ _ _, Below.refl _ _⟩
  case round =>
    obtain ⟨done, S, hS, hL, rfl, hO, hB⟩ := hrel
    have hem := empty_of (l := Lb S)
    rw [Bl_Lb] at hem
    obtain ⟨hem1, hem2⟩ := hem
    by_cases e0 : Lb S = []
    · rw [decide_eq_true e0] at hem1 hem2
      have HR : Hid (nmS (Lb s) = (done, true)) := Lib.hid (by rw [hS.out, e0, nmS_nil, List.append_nil])
      clear hS e0
      go_wp2_with fail
      go_ret2
      rw [HR.out]
      exact ⟨_, rfl, (hO.sl elIntM.len).mono (fun b _ e => (hO.lt b e).1), hB⟩
    · rw [decide_eq_false e0] at hem1 hem2
      have hc := rtake_any wr S (by omega)
      by_cases e1 : (tkN (Lb S)).2.2 = 0
      · have hl := tkN_less e1
        have hc2 := nmS_cons e1
        obtain ⟨R, hR⟩ : ∃ R, Bl (tkN (Lb S)).2.1 = R := ⟨_, rfl⟩
        have eR : (tkN (Lb S)).2.1 = Lb R := by rw [← hR, Lb_Bl]
        obtain ⟨n, hn⟩ : ∃ n, (tkN (Lb S)).1 = n := ⟨_, rfl⟩
        rw [eR, hn] at hc2
        rw [eR, Lb_len, Lb_len] at hl
        rw [hR, hn, e1] at hc
        have HN : Hid (nmS (Lb s) = (done ++ [n] ++ (nmS (Lb R)).1, (nmS (Lb R)).2)) := Lib.hid (by rw [hS.out, hc2]; simp)
        clear hc2 eR hR hn e1 hS e0
        go_wp2_with fail
        refine hc.mono ?_
        rintro e w1 ⟨rfl, hB1⟩
        have HB2 := Lib.hid (hB.trans (hB1.mono hB.size))
        have HO1 := Lib.hid (hO.fresh hB1)
        clear hB hB1 hO hc
        go_wp2_with (at_builtin; refine elIntM.append _ (by rfl) _ _ rfl w.heap.size _ _ rfl (HO1.out.fresh ((Below.refl _ _).alloc (Nat.le_refl _) _)) _ _ [n] rfl (Sl.single (heap_alloc_new _ _) rfl) ?_ ?_ ?_; (simp; omega); (have := HB2.out.size; simp; omega); intro v' w4 hown' hgrow hat; have HO2 := Lib.hid hown'; clear hown')
        go_roundw
        case rel => exact ⟨done ++ [n], R, HN, by rw [List.length_append, List.length_singleton]; omega, rfl, HO2.out, (HB2.out.alloc HB2.out.size _).grown hgrow (by have := HB2.out.size; simp; omega) (fun q e => (HO1.out.lt q e).1)⟩
        case measure => show R.size < S.size; omega
      · have d0 : ((tkN (Lb S)).2.2 != 0) = true := by simpa using e1
        have HR : Hid (nmS (Lb s) = (done, false)) := Lib.hid (by rw [hS.out, nmS_bad e0 e1, List.append_nil])
        clear hS e0 e1
        go_wp2_with fail
        refine hc.mono ?_
        rintro e w1 ⟨rfl, hB1⟩
        have HB2 := Lib.hid (hB.trans (hB1.mono hB.size))
        clear hB1
        go_wp2_with fail
        go_ret2
        rw [HR.out]
        exact ⟨_, rfl, Sl.nil_ _ _ _ _, HB2.out⟩
/-- Amid Load: its result's cell. -/
structure Lr (w0 w : World) (b0 : Nat) : Prop where
  past : Below w0.heap.size w0 w
  res : w.heap[b0]? = some (.cells #[.int .i64 0, .slice none 0 0] 41 (0, 0))
  g0 : w0.heap.size ≤ b0
section
variable {w0 w w' : World} {b0 : Nat}
theorem Lr.lt (h : Lr w0 w b0) : b0 < w.heap.size := (Array.getElem?_eq_some_iff.1 h.res).1
theorem Lr.fresh (h : Lr w0 w b0) (hB : Below w.heap.size w w') : Lr w0 w' b0 := ⟨h.past.trans (hB.mono h.past.size), (hB.block _ h.lt).trans h.res, h.g0⟩
theorem Lr.r0 (h : Lr w0 w b0) : w.cell? ⟨b0, 0, none⟩ = some (.int .i64 0) := cell_of_row w b0 0 _ _ _ h.res
theorem Lr.r1 (h : Lr w0 w b0) : w.cell? ⟨b0, 1, none⟩ = some (.slice none 0 0) := cell_of_row w b0 1 _ _ _ h.res
theorem Lr.s0 (h : Lr w0 w b0) : w.frozen? ⟨b0, 0, none⟩ = false := frozen_block h.res 0
theorem Lr.s1 (h : Lr w0 w b0) : w.frozen? ⟨b0, 1, none⟩ = false := frozen_block h.res 1
theorem Lr.put (h : Lr w0 w b0) (n : Int) (v : Value) : Below w0.heap.size w0 ((w.setCell ⟨b0, 0, none⟩ (.int .i64 n)).setCell ⟨b0, 1, none⟩ v) ∧ ((w.setCell ⟨b0, 0, none⟩ (.int .i64 n)).setCell ⟨b0, 1, none⟩ v).cell? ⟨b0, 0, none⟩ = some (.int .i64 n) ∧ ((w.setCell ⟨b0, 0, none⟩ (.int .i64 n)).setCell ⟨b0, 1, none⟩ v).cell? ⟨b0, 1, none⟩ = some v := by
  have k1 := setCell_block (o := 0) h.res (.int .i64 n)
  have k2 := setCell_block (o := 1) k1 v
  exact ⟨(h.past.setCell (p := ⟨b0, 0, none⟩) h.g0 _).setCell (p := ⟨b0, 1, none⟩) h.g0 _, cell_of_row _ b0 0 _ _ _ k2, cell_of_row _ b0 1 _ _ _ k2⟩
end
set_option maxRecDepth 20000 in
set_option maxHeartbeats 8000000 in
theorem loadR {X : Nat → Prop} {w : World} {m : Nat} {d : Dk} (h : Rd X w m d) (hl : d.L.length ≤ 1000) (hb : ∀ f, d.find sFile = some f → f.bytes.size ≤ 1073741824) : Calls Tryz.prog 11 #[.pointer (some ⟨m, 0, none⟩)] w fun e w' => ∃ v, e = .returned (.tuple #[.agg #[.int .i64 (ldV (d.find sFile)).1, v], .int .i64 (ldV (d.find sFile)).2.2]) ∧ Sl w' (fun _ => True) 1 intc v (ldV (d.find sFile)).2.1 ∧ Below w.heap.size w w' := by
  have hw1 : Lr w (w.alloc (.cells #[.int .i64 0, .slice none 0 0] 41)) w.heap.size := ⟨(Below.refl _ w).alloc (Nat.le_refl _) _, heap_alloc_new w _, Nat.le_refl _⟩
  have hrd := fun (W : World) (hW : Rd X W m d) => readR hW hl sFile
  obtain ⟨o, ho⟩ : ∃ o, d.find sFile = o := ⟨_, rfl⟩
  rw [ho] at hb hrd ⊢
  have HRD := Lib.hid hrd
  have H1 := Lib.hid (h.fresh hw1.past)
  have HR1 := Lib.hid hw1
  clear h hw1 ho hrd
  go_enter Tryz.func11, Tryz.ntmps11
  go_upto_region 1 with (fail)
  obtain ⟨b0, hb0⟩ : ∃ b, w.heap.size = b := ⟨_, rfl⟩
  rw [hb0] at HR1 ⊢
  generalize w.alloc (.cells #[.int .i64 0, .slice none 0 0] 41) = w1 at H1 HR1 ⊢
  go_wp2_with fail
  refine (HRD.out _ H1.out).mono ?_
  rintro e w2 ⟨rfl, hB2⟩
  have HR2 := Lib.hid (HR1.out.fresh hB2)
  have r0 := HR2.out.r0
  have r1 := HR2.out.r1
  have s0 := HR2.out.s0
  have s1 := HR2.out.s1
  clear hB2 HR1 H1
  cases o with
  | none =>
    rw [show readV none = .tuple #[.string ⟨#[]⟩, .int .i64 6] from rfl]
    go_wp2_with fail
    obtain ⟨hp, q0, q1⟩ := HR2.out.put 1 (.slice none 0 0)
    refine bodyPost_ret (v := .tuple #[.agg #[.int .i64 1, .slice none 0 0], .int .i64 0]) (by simp [results, Tryz.results11, go_sem, q0, q1]) rfl ⟨_, rfl, Sl.nil_ _ _ _ _, hp⟩
  | some f =>
    have hsz := hb f rfl
    obtain ⟨s, hs⟩ : ∃ s, f.bytes = s := ⟨_, rfl⟩
    rw [hs] at hsz
    rw [show readV (some f) = .tuple #[.string s, .int .i64 0] by rw [← hs]; rfl]
    have hD : ldV (some f) = if (ldF (Lb s)).2.2 = true then ((ldF (Lb s)).1, (ldF (Lb s)).2.1, 0) else (0, [], 2) := by rw [← hs]; rfl
    have HD := Lib.hid hD
    clear hb hs hD
    have hc := fun W => rframeTake_any W s (by omega)
    obtain ⟨P, hP⟩ : ∃ P, Bl (tkF crcU (Lb s)).1 = P := ⟨_, rfl⟩
    obtain ⟨R, hR⟩ : ∃ P, Bl (tkF crcU (Lb s)).2.1 = P := ⟨_, rfl⟩
    obtain ⟨E, hE⟩ : ∃ P, (tkF crcU (Lb s)).2.2 = P := ⟨_, rfl⟩
    have hPs : P.size ≤ 8000 := by
      rw [← hP, Bl_size]
      by_cases e0 : (tkF crcU (Lb s)).2.2 = 0
      · exact (tkF_len crcU (tkF_eta crcU e0)).2.2
      · rw [tkF_bad e0]; simp
    rw [hP, hR, hE] at hc
    have HPP : Hid ((tkF crcU (Lb s)).1 = Lb P) := Lib.hid (by rw [← hP, Lb_Bl])
    have HRR : Hid ((tkF crcU (Lb s)).2.1 = Lb R) := Lib.hid (by rw [← hR, Lb_Bl])
    have HEE := Lib.hid hE
    have HC := Lib.hid hc
    clear hP hR hE hc
    go_wp2_with fail
    refine (HC.out _).mono ?_
    rintro e w3 ⟨rfl, hB3⟩
    have HR3 := Lib.hid (HR2.out.fresh hB3)
    clear r0 r1 s0 s1 hB3 HR2
    go_wp2_with fail
    refine (rnums_any w3 P (by omega)).mono ?_
    rintro e w4 ⟨v, rfl, hsl, hB4⟩
    have HR4 := Lib.hid (HR3.out.fresh hB4)
    have HB03 := Lib.hid HR3.out.lt
    have r0 := HR4.out.r0
    have r1 := HR4.out.r1
    have s0 := HR4.out.s0
    have s1 := HR4.out.s1
    clear HR3 hB4
    obtain ⟨L, ok, hLo⟩ : ∃ L ok, nmS (Lb P) = (L, ok) := ⟨_, _, rfl⟩
    rw [hLo] at hsl ⊢
    have HLO := Lib.hid hLo
    clear hLo
    have hem := empty_of (l := Lb R)
    rw [Bl_Lb] at hem
    obtain ⟨hem1, hem2⟩ := hem
    obtain ⟨A, c, rfl, hA1, hA2⟩ := hsl.shape
    unfold maxLen at hA2
    have HSL := Lib.hid hsl
    clear hsl
    by_cases g1 : E = 0
    · by_cases g2 : Lb R = []
      · cases ok with
        | true =>
          have d1 : (E != 0) = false := by rw [g1]; decide
          rw [decide_eq_true g2] at hem1 hem2
          have G1 := Lib.hid g1
          have G2 := Lib.hid g2
          clear g1 g2
          rw [show numOut (L, true) = L from rfl] at HSL hA1 ⊢
          match L, HLO, HSL, hA1 with
          | [], HLO, HSL, hA1 =>
            have HF : Hid ((ldF (Lb s)).2.2 ≠ true) := Lib.hid (fun h => by
              obtain ⟨n, c, l, q1, _⟩ := ldF_get h
              rw [HPP.out, HLO.out] at q1
              cases (Prod.mk.inj q1).1)
            go_wp2_with fail
            obtain ⟨hp, q0, q1⟩ := HR4.out.put 0 (.slice none 0 0)
            refine bodyPost_ret (v := .tuple #[.agg #[.int .i64 0, .slice none 0 0], .int .i64 2]) (by simp [results, Tryz.results11, go_sem, q0, q1]) rfl ?_
            rw [HD.out, if_neg HF.out]
            exact ⟨_, rfl, Sl.nil_ _ _ _ _, hp⟩
          | [_], HLO, HSL, hA1 =>
            have HF : Hid ((ldF (Lb s)).2.2 ≠ true) := Lib.hid (fun h => by
              obtain ⟨n, c, l, q1, _⟩ := ldF_get h
              rw [HPP.out, HLO.out] at q1
              cases (Prod.mk.inj q1).1)
            go_wp2_with fail
            obtain ⟨hp, q0, q1⟩ := HR4.out.put 0 (.slice none 0 0)
            refine bodyPost_ret (v := .tuple #[.agg #[.int .i64 0, .slice none 0 0], .int .i64 2]) (by simp [results, Tryz.results11, go_sem, q0, q1]) rfl ?_
            rw [HD.out, if_neg HF.out]
            exact ⟨_, rfl, Sl.nil_ _ _ _ _, hp⟩
          | n :: k :: l, HLO, HSL, hA1 =>
            obtain ⟨q, o, rfl, hq1, hq2, hxx⟩ := HSL.out.cell_ (i := 0) (by simp)
            have x0 := hxx 0 _ rfl
            obtain ⟨q', o', hqq, _, _, hyy⟩ := HSL.out.cell_ (i := 1) (by simp)
            obtain ⟨rfl, rfl⟩ : q = q' ∧ o = o' := by simpa using hqq
            have x1 := hyy 0 _ rfl
            simp only [Nat.zero_mul, Nat.add_zero, Nat.one_mul, List.getElem_cons_zero, List.getElem_cons_succ] at x0 x1
            clear hxx hyy hqq
            obtain ⟨N, hN⟩ : ∃ N, (n :: k :: l).length = N := ⟨_, rfl⟩
            have hN2 : N = l.length + 2 := by rw [← hN]; rfl
            rw [hN] at hA1 ⊢
            have d2 : decide ((N : Int) < 2) = false := by simp; omega
            have b1 : (1 : Int) < (N : Int) := by omega
            have b00 : (0 : Int) < (N : Int) := by omega
            by_cases hk : k = (l.length : Int)
            · have d3 : (k != (N : Int) - 2) = false := by simp; omega
              have HKK := Lib.hid hk
              have HN2 := Lib.hid hN2
              have hc2 : 2 ≤ c := by omega
              have hcl := fun W => run_cut_low (P := Tryz.prog) Tryz.underlying33 (size := 1) (fun w : World => by kernel_rfl) (some ⟨q, o, none⟩) N c 2 (by decide) (by omega) W
              rw [show (2 : Int).toNat = 2 from rfl] at hcl
              have hdr := HSL.out.drop_ (i := 2) (by simp)
              rw [hN] at hdr
              obtain ⟨A9, hA9⟩ : ∃ A9, cutA (some ⟨q, o, none⟩) c 2 1 = A9 := ⟨_, rfl⟩
              rw [hA9, show N - 2 = l.length by omega] at hcl hdr
              have HDR := Lib.hid hdr
              clear hk hN2 hN hA9 hdr
              go_upto_region 8 with (fail)
              go_region
              have hdr5 : Sl w4 (fun k => w3.heap.size ≤ k) 1 intc (.slice A9 l.length (c - 2)) l := HDR.out
              obtain ⟨bm, hbm⟩ : ∃ bm, w4.heap.size = bm := ⟨_, rfl⟩
              have hblk := heap_alloc_new w4 (.cells #[.int .i64 n, .slice A9 l.length (c - 2)] 41)
              have hal : Below w4.heap.size w4 (w4.alloc (.cells #[.int .i64 n, .slice A9 l.length (c - 2)] 41)).drew := (((Below.refl _ w4).alloc (Nat.le_refl _) _)).trans ⟨rfl, rfl, rfl, Nat.le_refl _, fun _ _ => rfl⟩
              have h5 := HR4.out.fresh hal
              have hs5 := hdr5.fresh hal
              have hblk : (w4.alloc (.cells #[.int .i64 n, .slice A9 l.length (c - 2)] 41)).drew.heap[w4.heap.size]? = some (.cells #[.int .i64 n, .slice A9 l.length (c - 2)] 41 (0, 0)) := hblk
              rw [hbm] at hblk ⊢
              generalize (w4.alloc (.cells #[.int .i64 n, .slice A9 l.length (c - 2)] 41)).drew = w5 at h5 hs5 hblk ⊢
              clear x0 x1 r0 r1 s0 s1 hcl hem1 hem2 d1 d2 d3 hal hdr5 HR4 HDR HSL
              have m0 : w5.cell? ⟨bm, 0, none⟩ = some (.int .i64 n) := cell_of_row w5 bm 0 _ _ _ hblk
              have m1 : w5.cell? ⟨bm, 1, none⟩ = some (.slice A9 l.length (c - 2)) := cell_of_row w5 bm 1 _ _ _ hblk
              have HR5 := Lib.hid h5
              have HS5 := Lib.hid hs5
              have HBK := Lib.hid hblk
              clear h5 hs5 hblk
              go_wp2_with fail
              refine (right10_any w5 n _ l _ HS5.out).mono ?_
              rintro e w6 ⟨rfl, hB6⟩
              have HR6 := Lib.hid (HR5.out.fresh hB6)
              have HS6 := Lib.hid (HS5.out.fresh hB6)
              have hblk := (hB6.block bm (Array.getElem?_eq_some_iff.1 HBK.out).1).trans HBK.out
              have m0 : w6.cell? ⟨bm, 0, none⟩ = some (.int .i64 n) := cell_of_row w6 bm 0 _ _ _ hblk
              have m1 : w6.cell? ⟨bm, 1, none⟩ = some (.slice A9 l.length (c - 2)) := cell_of_row w6 bm 1 _ _ _ hblk
              have r0 := HR6.out.r0
              have r1 := HR6.out.r1
              have s0 := HR6.out.s0
              have s1 := HR6.out.s1
              clear hB6 hblk HBK HR5 HS5
              cases hrb : rightB n l with
              | false =>
                have HF : Hid ((ldF (Lb s)).2.2 ≠ true) := Lib.hid (fun h => by
                  obtain ⟨n', c', l', q1, _, _, q2, q6, _⟩ := ldF_get h
                  rw [HPP.out, HLO.out] at q1
                  obtain ⟨q0, q3⟩ := List.cons.inj (Prod.mk.inj q1).1
                  obtain ⟨q4, q5⟩ := List.cons.inj q3
                  rw [← q0, ← q5, hrb] at q6
                  cases q6)
                have HR4 := HR6
                clear hrb
                go_wp2_with fail
                obtain ⟨hp, q0, q1⟩ := HR6.out.put 0 (.slice none 0 0)
                refine bodyPost_ret (v := .tuple #[.agg #[.int .i64 0, .slice none 0 0], .int .i64 2]) (by simp [results, Tryz.results11, go_sem, q0, q1]) rfl ?_
                rw [HD.out, if_neg HF.out]
                exact ⟨_, rfl, Sl.nil_ _ _ _ _, hp⟩
              | true =>
                have HF : Hid (ldF (Lb s) = (n, l, true)) := Lib.hid (ldF_mk (by rw [HPP.out, HLO.out]) (by rw [HEE.out, G1.out]) (by rw [HRR.out, G2.out]) HKK.out hrb)
                clear hrb
                go_wp2_with fail
                obtain ⟨hp, q0, q1⟩ := HR6.out.put n (.slice A9 l.length (c - 2))
                refine bodyPost_ret (v := .tuple #[.agg #[.int .i64 n, .slice A9 l.length (c - 2)], .int .i64 0]) (by simp [results, Tryz.results11, go_sem, q0, q1]) rfl ?_
                rw [HD.out, HF.out, if_pos rfl]
                refine ⟨_, rfl, ?_, hp⟩
                have hk9 : Keeps (fun k => k = b0) w6 ((w6.setCell ⟨b0, 0, none⟩ (.int .i64 n)).setCell ⟨b0, 1, none⟩ (.slice A9 l.length (c - 2))) := ((Keeps.refl (fun k => k = b0) w6).setCell (p := ⟨b0, 0, none⟩) (fun _ => rfl) _).setCell (p := ⟨b0, 1, none⟩) (fun _ => rfl) _
                exact (HS6.out.keep hk9 (fun k _ h1 e => by have := HB03.out; omega)).mono (fun _ _ _ => trivial)
            · have d3 : (k != (N : Int) - 2) = true := by simp; omega
              have HF : Hid ((ldF (Lb s)).2.2 ≠ true) := Lib.hid (fun h => by
                obtain ⟨n', c', l', q1, _, _, q2, _⟩ := ldF_get h
                rw [HPP.out, HLO.out] at q1
                obtain ⟨_, q3⟩ := List.cons.inj (Prod.mk.inj q1).1
                obtain ⟨q4, q5⟩ := List.cons.inj q3
                exact hk (by rw [q4, q5]; exact q2))
              have HN2 := Lib.hid hN2
              have HKK := Lib.hid hk
              clear hN2 hN hk
              go_wp2_with fail
              obtain ⟨hp, q0, q1⟩ := HR4.out.put 0 (.slice none 0 0)
              refine bodyPost_ret (v := .tuple #[.agg #[.int .i64 0, .slice none 0 0], .int .i64 2]) (by simp [results, Tryz.results11, go_sem, q0, q1]) rfl ?_
              rw [HD.out, if_neg HF.out]
              exact ⟨_, rfl, Sl.nil_ _ _ _ _, hp⟩
        | false =>
          have d1 : (E != 0) = false := by rw [g1]; decide
          rw [decide_eq_true g2] at hem1 hem2
          have HF : Hid ((ldF (Lb s)).2.2 ≠ true) := Lib.hid (fun h => by
            obtain ⟨n, c, l, q1, _⟩ := ldF_get h
            rw [HPP.out, HLO.out] at q1
            cases (Prod.mk.inj q1).2)
          have G1 := Lib.hid g1
          have G2 := Lib.hid g2
          clear g1 g2
          go_wp2_with fail
          obtain ⟨hp, q0, q1⟩ := HR4.out.put 0 (.slice none 0 0)
          refine bodyPost_ret (v := .tuple #[.agg #[.int .i64 0, .slice none 0 0], .int .i64 2]) (by simp [results, Tryz.results11, go_sem, q0, q1]) rfl ?_
          rw [HD.out, if_neg HF.out]
          exact ⟨_, rfl, Sl.nil_ _ _ _ _, hp⟩
      · have d1 : (E != 0) = false := by rw [g1]; decide
        rw [decide_eq_false g2] at hem1 hem2
        have HF : Hid ((ldF (Lb s)).2.2 ≠ true) := Lib.hid (fun h => by
          obtain ⟨n, c, l, _, _, q1, _⟩ := ldF_get h
          exact g2 (HRR.out ▸ q1))
        have G1 := Lib.hid g1
        have G2 := Lib.hid g2
        clear g1 g2
        go_wp2_with fail
        obtain ⟨hp, q0, q1⟩ := HR4.out.put 0 (.slice none 0 0)
        refine bodyPost_ret (v := .tuple #[.agg #[.int .i64 0, .slice none 0 0], .int .i64 2]) (by simp [results, Tryz.results11, go_sem, q0, q1]) rfl ?_
        rw [HD.out, if_neg HF.out]
        exact ⟨_, rfl, Sl.nil_ _ _ _ _, hp⟩
    · have d1 : (E != 0) = true := by simpa using g1
      have HF : Hid ((ldF (Lb s)).2.2 ≠ true) := Lib.hid (fun h => by
        obtain ⟨n, c, l, _, q1, _⟩ := ldF_get h
        exact g1 (HEE.out ▸ q1))
      clear g1 hem1 hem2
      go_wp2_with fail
      obtain ⟨hp, q0, q1⟩ := HR4.out.put 0 (.slice none 0 0)
      refine bodyPost_ret (v := .tuple #[.agg #[.int .i64 0, .slice none 0 0], .int .i64 2]) (by simp [results, Tryz.results11, go_sem, q0, q1]) rfl ?_
      rw [HD.out, if_neg HF.out]
      exact ⟨_, rfl, Sl.nil_ _ _ _ _, hp⟩
end Go.Proofs.YthdehdlbocgfaaaGreatDoor

/- The document's manifest: epochs, Epoch. Under the stated premises on sizes. -/
namespace Go.Proofs.YthdehdlbocgfaaaGreatDoor
open Go.RowKit Go.Bl
attribute [local go_sem ↓] Go.wp_at_zero Go.wp_at_succ

/-- Is a payload an epoch behind last? -/
def epG (last : Int) (p : List UInt8) : Bool := decide ((tkN p).2.2 = 0) && decide ((tkN p).2.1 = []) && decide (last < (tkN p).1) && decide ((tkN p).1 ≤ 274877906944)
/-- The epochs that rise, and how many bytes their frames have. -/
def epO : Int → List (List UInt8) → List Int × Nat
  | _, [] => ([], 0)
  | last, p :: l => if epG last p = true then ((tkN p).1 :: (epO (tkN p).1 l).1, 8 + p.length + (epO (tkN p).1 l).2) else ([], 0)
def sumS : List (List UInt8) → Nat
  | [] => 0
  | p :: l => 8 + p.length + sumS l
theorem epG_iff {last : Int} {p : List UInt8} : epG last p = true ↔ (tkN p).2.2 = 0 ∧ (tkN p).2.1 = [] ∧ last < (tkN p).1 ∧ (tkN p).1 ≤ 274877906944 := by
  unfold epG
  simp only [Bool.and_eq_true, decide_eq_true_eq, and_assoc]
theorem epO_F : ∀ (l : List (List UInt8)) (last : Int) (i : Nat), (epF' : Int × Nat × Bool) → epsF last i l = epF' → epF' = (lastI last (epO last l).1, i + (epO last l).1.length, decide ((epO last l).2 = sumS l))
  | [], last, i, _, h => by
    rw [← h]
    rfl
  | p :: l, last, i, _, h => by
    rw [← h]
    unfold epsF epO
    by_cases e : epG last p = true
    · rw [if_pos (epG_iff.1 e), if_pos e]
      rw [epO_F l (tkN p).1 (i + 1) _ rfl]
      refine Prod.ext rfl (Prod.ext ?_ ?_)
      · show i + 1 + (epO (tkN p).1 l).1.length = i + ((epO (tkN p).1 l).1.length + 1)
        omega
      · exact decide_eq_decide.2 (by show _ ↔ 8 + p.length + (epO (tkN p).1 l).2 = 8 + p.length + sumS l; omega)
    · rw [if_neg (fun h => e (epG_iff.2 h)), if_neg e]
      exact Prod.ext rfl (Prod.ext rfl (decide_eq_false (by show ¬ 0 = 8 + p.length + sumS l; omega)).symm)
theorem scan_sum : ∀ (f : Nat) (s : List UInt8), s.length ≤ f → sumS (scanS crcU s).1 + (scanS crcU s).2.length = s.length
  | f, s, hf => by
    by_cases e : (tkF crcU s).2.2 = 0
    · have hl := tkF_len crcU (tkF_eta crcU e)
      rw [scanS_cons crcU e]
      match f, hf with
      | 0, hf => omega
      | f + 1, hf =>
        have ih := scan_sum f (tkF crcU s).2.1 (by omega)
        show 8 + (tkF crcU s).1.length + sumS (scanS crcU (tkF crcU s).2.1).1 + (scanS crcU (tkF crcU s).2.1).2.length = s.length
        omega
    · rw [scanS_nil crcU e]
      show 0 + s.length = _
      omega
theorem epO_le : ∀ (l : List (List UInt8)) (last : Int), (epO last l).2 ≤ sumS l
  | [], _ => Nat.le_refl _
  | p :: l, last => by
    unfold epO
    have := epO_le l (tkN p).1
    split
    · simp only [sumS]; omega
    · exact Nat.zero_le _
/-- The document's epochs of the mark. -/
def docE (s : List UInt8) : List Int × Nat := epO 0 (scanS crcU s).1
theorem docE_S (s : List UInt8) : epsS s = (lastI 0 (docE s).1, (docE s).1.length, decide ((docE s).2 = s.length)) := by
  have h1 := epO_F (scanS crcU s).1 0 0 _ rfl
  have h2 := scan_sum _ s (Nat.le_refl _)
  have h3 := epO_le (scanS crcU s).1 0
  unfold epsS docE
  rw [h1]
  simp only [Nat.zero_add]
  congr 2
  rw [Bool.eq_iff_iff]
  simp only [Bool.and_eq_true, decide_eq_true_eq]
  constructor
  · rintro ⟨q1, q2⟩
    rw [q2] at h2
    simp at h2
    omega
  · intro q
    have : (scanS crcU s).2.length = 0 := by omega
    exact ⟨by omega, List.length_eq_zero_iff.1 this⟩
theorem mark_read (d : Dk) : ∃ s E, readV (d.find sMark) = .tuple #[.string s, .int .i64 E] ∧ Lb s = d.mark := by
  unfold Dk.mark
  cases d.find sMark with
  | none => exact ⟨⟨#[]⟩, 6, rfl, rfl⟩
  | some f => exact ⟨f.bytes, 0, rfl, rfl⟩
set_option maxRecDepth 8000 in
set_option maxHeartbeats 4000000 in
theorem epochsR {X : Nat → Prop} {w : World} {m : Nat} {d : Dk} (h : Rd X w m d) (hl : d.L.length ≤ 1000) (hm : d.mark.length ≤ 1073741824) : Calls Tryz.prog 43 #[.pointer (some ⟨m, 0, none⟩)] w fun e w' => ∃ v, e = .returned (.tuple #[v, .int .i64 (docE d.mark).2]) ∧ Sl w' (fun k => w.heap.size ≤ k) 1 intc v (docE d.mark).1 ∧ Below w.heap.size w w' := by
  have hrd := readR h hl sMark
  obtain ⟨s, E, hs, hms⟩ := mark_read d
  rw [hs] at hrd
  rw [← hms] at hm ⊢
  rw [Lb_len] at hm
  have HRD := Lib.hid hrd
  obtain ⟨Ls, hLs⟩ : ∃ Ls, (scanS crcU (Lb s)).1 = Ls := ⟨_, rfl⟩
  have hsum := scan_sum _ (Lb s) (Nat.le_refl _)
  rw [Lb_len, hLs] at hsum
  have hdoc : docE (Lb s) = epO 0 Ls := by unfold docE; rw [hLs]
  have hpay := scanS_pay _ (Lb s) (Nat.le_refl _)
  rw [hLs] at hpay
  have hsc := fun W => rscan_any W s hm
  obtain ⟨Z, hZ⟩ : ∃ Z : Nat, s.size - (scanS crcU (Lb s)).2.length = Z := ⟨_, rfl⟩
  rw [hLs, hZ] at hsc
  have HSC := Lib.hid hsc
  have HDOC := Lib.hid hdoc
  have hsum2 : sumS Ls ≤ 1073741824 := by omega
  have HPAY := Lib.hid hpay
  rw [hdoc]
  clear h hs hms hrd hLs hsum hdoc hsc hZ hpay
  go_enter Tryz.func43, Tryz.ntmps43
  go_wp2_with fail
  refine HRD.out.mono ?_
  rintro e w1 ⟨rfl, hB1⟩
  have HB1 := Lib.hid hB1
  clear hB1
  go_wp2_with fail
  refine (HSC.out w1).mono ?_
  rintro e w2 ⟨v, rfl, hsl, hB2⟩
  obtain ⟨A, c, rfl, hA1, hA2⟩ := hsl.shape_ (n := Ls.length) (by rw [List.length_map])
  unfold maxLen at hA2
  have HSL := Lib.hid hsl
  have HB2 := Lib.hid (HB1.out.trans (hB2.mono HB1.out.size))
  clear hsl hB2
  go_wp2_with fail
  go_loopw [8, 9, 10, 11] (fun v a z i wr => ∃ (k sz : Nat) (last : Int) (done : List Int), k ≤ Ls.length ∧ Hid (epO 0 Ls = (done ++ (epO last (Ls.drop k)).1, sz + (epO last (Ls.drop k)).2)) ∧ sz + sumS (Ls.drop k) ≤ 1073741824 ∧ done.length ≤ sz ∧ 0 ≤ last ∧ last ≤ 274877906944 ∧ Go.Bl.Own wr w2.heap.size 3 1 intc v done ∧ a = .int .i64 last ∧ z = .int .i64 sz ∧ i = .int .i64 k ∧ Below w2.heap.size w2 wr) (fun _ _ _ i _ => Ls.length - (intOf i).toNat)
  case atStart => exact ⟨0, 0, 0, [], Nat.zero_le _, Lib.hid (by simp), by simpa using hsum2, Nat.le_refl _, Int.le_refl _, by decide, Go.Bl.Own.nil_ _ _ _ _ _, rfl, rfl, rfl, Below.refl _ _⟩
  case round =>
    obtain ⟨k, sz, last, done, hk, hE, hz, hdl, ha0, ha1, hO, rfl, rfl, rfl, hB⟩ := hrel
    by_cases hlt : k < Ls.length
    · have d0 : decide ((k : Int) < (Ls.length : Int)) = true := by simp; omega
      obtain ⟨q, o, rfl, _, hq2, hxx⟩ := HSL.out.cell_ (i := k) (by rw [List.length_map]; exact hlt)
      have x0 := hxx 0 _ rfl
      rw [Nat.mul_one, Nat.add_zero, List.getElem_map] at x0
      have hdrop : Ls.drop k = Ls[k] :: Ls.drop (k + 1) := List.drop_eq_getElem_cons hlt
      have hpy := HPAY.out Ls[k] (List.getElem_mem hlt)
      obtain ⟨P, hP⟩ : ∃ P, Bl Ls[k] = P := ⟨_, rfl⟩
      have hLP : Ls[k] = Lb P := by rw [← hP, Lb_Bl]
      rw [hP] at x0
      have xw := (hB.cell (p := ⟨q, o + k, none⟩) hq2).trans x0
      rw [hLP] at hdrop hpy
      rw [Lb_len] at hpy
      rw [hdrop] at hz
      have hz2 : sz + (8 + P.size + sumS (Ls.drop (k + 1))) ≤ 1073741824 := hz
      have hc := rtake_any wr P (by omega)
      obtain ⟨n, rest, er, ht⟩ : ∃ n rest er, tkN (Lb P) = (n, rest, er) := ⟨_, _, _, rfl⟩
      rw [ht] at hc
      obtain ⟨R, hR⟩ : ∃ R, Bl rest = R := ⟨_, rfl⟩
      have hRr : rest = Lb R := by rw [← hR, Lb_Bl]
      have hem := empty_of (l := Lb R)
      rw [Bl_Lb] at hem
      obtain ⟨hem1, hem2⟩ := hem
      have hb3 := tkN_bd (Lb P)
      rw [ht] at hb3
      obtain ⟨hb3, hb4, _⟩ := hb3
      have hb3 : 0 ≤ n := hb3
      have hb4 : n ≤ 1099511627776 := hb4
      have hg : epG last (Lb P) = true ↔ er = 0 ∧ Lb R = [] ∧ last < n ∧ n ≤ 274877906944 := by
        rw [epG_iff, ht, ← hRr]
      have hc' : Calls Tryz.prog 66 #[.string P] wr fun e w' => e = .returned (.tuple #[.int .i64 n, .string R, .int .i64 er]) ∧ Below wr.heap.size wr w' := by rw [← hR]; exact hc
      have HC := Lib.hid hc'
      have HE1 : Hid (epG last (Lb P) = true → epO 0 Ls = (done ++ [n] ++ (epO n (Ls.drop (k + 1))).1, (sz + 8 + P.size) + (epO n (Ls.drop (k + 1))).2)) := Lib.hid (fun hgg => by
        rw [hE.out, hdrop]
        conv => lhs; unfold epO
        rw [if_pos hgg, ht]
        refine Prod.ext (by simp) ?_
        show sz + (8 + (Lb P).length + (epO n (Ls.drop (k + 1))).2) = sz + 8 + P.size + (epO n (Ls.drop (k + 1))).2
        rw [Lb_len]
        omega)
      have HE2 : Hid (epG last (Lb P) ≠ true → epO 0 Ls = (done, sz)) := Lib.hid (fun hgg => by
        rw [hE.out, hdrop]
        conv => lhs; unfold epO
        rw [if_neg hgg]
        simp)
      have HG := Lib.hid hg
      have HB := Lib.hid hB
      have HO := Lib.hid hO
      clear hc hc' hg hxx hdrop hLP hP hz hE hR hRr ht hB hO
      go_wp2_with fail
      refine HC.out.mono ?_
      rintro e w3 ⟨rfl, hB3⟩
      have HB3 := Lib.hid (HB.out.trans (hB3.mono HB.out.size))
      have HO3 := Lib.hid (HO.out.fresh hB3)
      have hw3 : Below w.heap.size w w3 := HB2.out.trans (HB3.out.mono HB2.out.size)
      have HW3 := Lib.hid hw3
      clear hB3 HO HB xw hw3
      by_cases g1 : er = 0
      · by_cases g2 : Lb R = []
        · by_cases g3 : last < n
          · by_cases g4 : n ≤ 274877906944
            · have d1 : (er != 0) = false := by rw [g1]; decide
              rw [decide_eq_true g2] at hem1 hem2
              have d3 : decide (n ≤ last) = false := by simp; omega
              have d4 : decide (274877906944 < n) = false := by simp; omega
              have HEE := Lib.hid (HE1.out (HG.out.2 ⟨g1, g2, g3, g4⟩))
              have G1 := Lib.hid g1
              have G2 := Lib.hid g2
              have G3 := Lib.hid g3
              clear g1 g2 g3 HE1 HE2 HG
              go_wp2_with (at_builtin; refine elIntM.append _ (by rfl) _ _ rfl w2.heap.size _ _ rfl (HO3.out.fresh ((Below.refl _ _).alloc (Nat.le_refl _) _)) _ _ [n] rfl (Sl.single (heap_alloc_new _ _) rfl) ?_ ?_ ?_; (simp; omega); (have := HB3.out.size; simp; omega); intro v' w4 hown' hgrow hat; have HO4 := Lib.hid hown'; have hB4 : Below w2.heap.size w2 w4 := (HB3.out.alloc HB3.out.size _).grown hgrow (by have := HB3.out.size; simp; omega) (fun q e => (HO3.out.lt q e).1); have x4 := (hB4.cell (p := ⟨q, o + k, none⟩) hq2).trans x0; have HB4 := Lib.hid hB4; clear hown' hB4)
              go_roundw
              case rel => exact ⟨k + 1, sz + 8 + P.size, n, done ++ [n], by omega, HEE, by omega, by rw [List.length_append, List.length_singleton]; omega, hb3, g4, HO4.out, rfl, by go_num, by go_num, HB4.out⟩
              case measure => simp [intOf]; omega
            · have d1 : (er != 0) = false := by rw [g1]; decide
              rw [decide_eq_true g2] at hem1 hem2
              have d3 : decide (n ≤ last) = false := by simp; omega
              have d4 : decide (274877906944 < n) = true := by simp; omega
              have HEE := Lib.hid (HE2.out (fun hh => by have := HG.out.1 hh; simp_all))
              have G1 := Lib.hid g1
              clear g1 HE1 HE2 HG
              go_wp2_with fail
              go_ret2
              rw [HEE.out]
              exact ⟨_, rfl, (HO3.out.sl elIntM.len).mono (fun b _ e => Nat.le_trans HB2.out.size (HO3.out.lt b e).1), HW3.out⟩
          · have d1 : (er != 0) = false := by rw [g1]; decide
            rw [decide_eq_true g2] at hem1 hem2
            have d3 : decide (n ≤ last) = true := by simp; omega
            have HEE := Lib.hid (HE2.out (fun hh => by have := HG.out.1 hh; simp_all))
            have G1 := Lib.hid g1
            clear g1 HE1 HE2 HG
            go_wp2_with fail
            go_ret2
            rw [HEE.out]
            exact ⟨_, rfl, (HO3.out.sl elIntM.len).mono (fun b _ e => Nat.le_trans HB2.out.size (HO3.out.lt b e).1), HW3.out⟩
        · have d1 : (er != 0) = false := by rw [g1]; decide
          rw [decide_eq_false g2] at hem1 hem2
          have HEE := Lib.hid (HE2.out (fun hh => by have := HG.out.1 hh; simp_all))
          have G1 := Lib.hid g1
          clear g1 HE1 HE2 HG
          go_wp2_with fail
          go_ret2
          rw [HEE.out]
          exact ⟨_, rfl, (HO3.out.sl elIntM.len).mono (fun b _ e => Nat.le_trans HB2.out.size (HO3.out.lt b e).1), HW3.out⟩
      · have d1 : (er != 0) = true := by simpa using g1
        have HEE := Lib.hid (HE2.out (fun hh => by have := HG.out.1 hh; simp_all))
        have G1 := Lib.hid g1
        clear g1 HE1 HE2 HG
        go_wp2_with fail
        go_ret2
        rw [HEE.out]
        exact ⟨_, rfl, (HO3.out.sl elIntM.len).mono (fun b _ e => Nat.le_trans HB2.out.size (HO3.out.lt b e).1), HW3.out⟩
    · have hkd : k = Ls.length := by omega
      subst hkd
      have d0 : decide ((Ls.length : Int) < (Ls.length : Int)) = false := by simp
      have HR : Hid (epO 0 Ls = (done, sz)) := Lib.hid (by rw [hE.out, List.drop_length]; simp [epO])
      clear hE
      go_wp2_with fail
      go_ret2
      rw [HR.out]
      exact ⟨_, rfl, (hO.sl elIntM.len).mono (fun b _ e => Nat.le_trans HB2.out.size (hO.lt b e).1), HB2.out.trans (hB.mono HB2.out.size)⟩
end Go.Proofs.YthdehdlbocgfaaaGreatDoor

/- The document's manifest: Epoch, Raise. Under the stated premises on sizes. -/
namespace Go.Proofs.YthdehdlbocgfaaaGreatDoor
open Go.RowKit Go.Bl
attribute [local go_sem ↓] Go.wp_at_zero Go.wp_at_succ

theorem ren_len (d : Dk) (x y : ByteArray) : (d.ren x y).2.L.length ≤ d.L.length + 1 := by
  unfold Dk.ren
  split
  · exact Nat.le_succ _
  · split
    · exact Nat.le_succ _
    · split
      · exact Nat.le_succ _
      · rename_i f _ _ _
        have h1 := del_len (d.del y) f.name
        have h2 := del_len d y
        show (((d.del y).del f.name).L ++ [{ f with name := y }]).length ≤ _
        rw [List.length_append, List.length_singleton]
        omega
theorem wr_len (d : Dk) (x s : ByteArray) : (d.wr x s).2.L.length ≤ d.L.length + 2 := by
  have l1 := del_len d sTemp
  have l2 := app_len (d.del sTemp) sTemp s
  have l3 := sync_len ((d.del sTemp).app sTemp s).2 sTemp
  unfold Dk.wr
  split
  · have l4 := ren_len (((d.del sTemp).app sTemp s).2.sync sTemp) sTemp x
    omega
  · have l4 := del_len ((d.del sTemp).app sTemp s).2 sTemp
    show (((d.del sTemp).app sTemp s).2.del sTemp).L.length ≤ _
    omega
set_option maxRecDepth 8000 in
set_option maxHeartbeats 2000000 in
theorem epochR {X : Nat → Prop} {w : World} {m : Nat} {d : Dk} (h : Rd X w m d) (hl : d.L.length ≤ 1000) (hm : d.mark.length ≤ 1073741824) : Calls Tryz.prog 14 #[.pointer (some ⟨m, 0, none⟩)] w fun e w' => e = .returned (.int .i64 (epsS d.mark).1) ∧ Below w.heap.size w w' := by
  have hc := epochsR h hl hm
  rw [docE_S]
  obtain ⟨L, Z, hLZ⟩ : ∃ L Z, docE d.mark = (L, Z) := ⟨_, _, rfl⟩
  rw [hLZ] at hc ⊢
  have HC := Lib.hid hc
  clear hc h hLZ
  show Calls _ _ _ _ fun e w' => e = .returned (.int .i64 (lastI 0 L)) ∧ _
  rcases List.eq_nil_or_concat L with rfl | ⟨L', x, rfl⟩
  · go_enter Tryz.func14, Tryz.ntmps14
    go_wp2_with fail
    refine HC.out.mono ?_
    rintro e w1 ⟨v, rfl, hsl, hB1⟩
    obtain ⟨A, c, rfl, hA1, hA2⟩ := hsl.shape_ (n := 0) rfl
    unfold maxLen at hA2
    go_wp2_with fail
    go_ret
    exact ⟨rfl, hB1⟩
  · rw [List.concat_eq_append] at HC ⊢
    rw [lastI_snoc]
    go_enter Tryz.func14, Tryz.ntmps14
    go_wp2_with fail
    refine HC.out.mono ?_
    rintro e w1 ⟨v, rfl, hsl, hB1⟩
    obtain ⟨A, c, rfl, hA1, hA2⟩ := hsl.shape_ (n := L'.length + 1) (by simp)
    unfold maxLen at hA2
    obtain ⟨q, o, rfl, _, _, hxx⟩ := hsl.cell_ (i := L'.length) (by simp)
    have x0 := hxx 0 _ rfl
    rw [Nat.mul_one, Nat.add_zero, List.getElem_append_right (Nat.le_refl _)] at x0
    simp only [Nat.sub_self, List.getElem_cons_zero] at x0
    have hz : ((((L'.length + 1 : Nat) : Int)) == 0) = false := by rw [beq_eq_false_iff_ne]; omega
    have hs1 : (((L'.length + 1 : Nat) : Int)) - 1 = (L'.length : Int) := by omega
    have HS := Lib.hid hsl
    clear hsl hxx
    go_wp2_with fail
    go_ret
    exact ⟨rfl, hB1⟩
set_option maxRecDepth 8000 in
set_option maxHeartbeats 4000000 in
theorem raiseR {X : Nat → Prop} {w : World} {m : Nat} {d : Dk} (h : Rd X w m d) (hl : d.L.length ≤ 100) (hu : d.used ≤ 1000000000000) (hm : d.mark.length ≤ 1073741824) (n : Int) :
    Calls Tryz.prog 22 #[.pointer (some ⟨m, 0, none⟩), .int .i64 n] w fun e w' => e = .returned (.int .i64 (d.raise n).1) ∧ Rd X w' m (d.raise n).2 ∧ Kx X w w' := by
  by_cases g1 : n < 1 ∨ 274877906944 < n
  · have hR : d.raise n = (1, d) := by unfold Dk.raise; rw [if_pos g1]
    rw [hR]
    have H := Lib.hid h
    have hk := Keeps.refl (fun k => ¬ X k) w
    clear h
    go_enter Tryz.func22, Tryz.ntmps22
    by_cases g0 : n < 1
    · have d1 : decide (n < 1) = true := by simpa using g0
      go_wp2_with fail
      go_ret
      exact ⟨rfl, H.out, hk⟩
    · have d1 : decide (n < 1) = false := by simpa using g0
      have d2 : decide (274877906944 < n) = true := by simp; omega
      go_wp2_with fail
      go_ret
      exact ⟨rfl, H.out, hk⟩
  · have d1 : decide (n < 1) = false := by simp; omega
    have d2 : decide (274877906944 < n) = false := by simp; omega
    have hEp := fun (W : World) (hW : Rd X W m d) => epochR hW (by omega) hm
    have hEs := fun (W : World) (hW : Rd X W m d) => epochsR hW (by omega) hm
    have hRd := fun (W : World) (hW : Rd X W m d) => readR hW (by omega) sMark
    obtain ⟨s, E, hs, hms⟩ := mark_read d
    rw [hs] at hRd
    have hdoc := docE_S d.mark
    have hR : d.raise n = if n < (epsS d.mark).1 then (10, d) else if n = (epsS d.mark).1 then (if d.find sMark = none then 6 else 0, d.sync sMark)
        else if ((if (epsS d.mark).2.2 = true ∧ (epsS d.mark).2.1 ≤ 20 then d.app sMark (mkF n) else d.wr sMark (mkF n))).1 = 0 then (if ((if (epsS d.mark).2.2 = true ∧ (epsS d.mark).2.1 ≤ 20 then d.app sMark (mkF n) else d.wr sMark (mkF n))).2.find sMark = none then 6 else 0, ((if (epsS d.mark).2.2 = true ∧ (epsS d.mark).2.1 ≤ 20 then d.app sMark (mkF n) else d.wr sMark (mkF n))).2.sync sMark) else (if (epsS d.mark).2.2 = true ∧ (epsS d.mark).2.1 ≤ 20 then d.app sMark (mkF n) else d.wr sMark (mkF n)) := by
      unfold Dk.raise
      rw [if_neg g1]
    obtain ⟨L, Z, hLZ⟩ : ∃ L Z, docE d.mark = (L, Z) := ⟨_, _, rfl⟩
    rw [hLZ] at hdoc hEs
    rw [← hms, Lb_len] at hm
    have hsl : d.mark.length = s.size := by rw [← hms, Lb_len]
    rw [hsl] at hdoc
    obtain ⟨a, ha⟩ : ∃ a, (epsS d.mark).1 = a := ⟨_, rfl⟩
    have h21 : (epsS d.mark).2.1 = L.length := by rw [hdoc]
    have h22 : (epsS d.mark).2.2 = decide (Z = s.size) := by rw [hdoc]
    rw [ha] at hEp hR
    rw [h21, h22] at hR
    have hZs : Z ≤ s.size := by
      have h1 := epO_le (scanS crcU d.mark).1 0
      have h2 := scan_sum _ d.mark (Nat.le_refl _)
      have h3 : (epO 0 (scanS crcU d.mark).1).2 = Z := congrArg Prod.snd hLZ
      omega
    have HEP := Lib.hid hEp
    have HES := Lib.hid hEs
    have HRD := Lib.hid hRd
    have HR := Lib.hid hR
    have H := Lib.hid h
    clear h hEp hEs hRd hR hdoc hLZ hs hms hsl ha h21 h22
    go_enter Tryz.func22, Tryz.ntmps22
    go_wp2_with fail
    refine (HEP.out w H.out).mono ?_
    rintro e w1 ⟨rfl, hB1⟩
    have H1 := Lib.hid (H.out.fresh hB1)
    have HB1 := Lib.hid hB1
    clear hB1 H
    by_cases g2 : n < a
    · have d3 : decide (n < a) = true := by simpa using g2
      have HR2 : Hid (d.raise n = (10, d)) := Lib.hid (by rw [HR.out, if_pos g2])
      clear HR g2
      go_wp2_with fail
      go_ret
      rw [HR2.out]
      exact ⟨rfl, H1.out, Kx.of_below HB1.out⟩
    have d3 : decide (n < a) = false := by simpa using g2
    by_cases g3 : n = a
    · have d4 : (n == a) = true := by simpa using g3
      obtain ⟨ev, hev⟩ : ∃ ev : Int, (if d.find ⟨#[101, 112, 111, 99, 104]⟩ = none then (6 : Int) else 0) = ev := ⟨_, rfl⟩
      have hsy := syncR H1.out (by omega) ⟨#[101, 112, 111, 99, 104]⟩
      rw [hev] at hsy
      have HR2 : Hid (d.raise n = (ev, d.sync sMark)) := Lib.hid (by rw [HR.out, if_neg g2, if_pos g3]; exact Prod.ext hev rfl)
      have HSY := Lib.hid hsy
      have G3 := Lib.hid g3
      clear HR g2 hsy hev g3
      go_wp2_with fail
      refine HSY.out.mono ?_
      rintro e w2 ⟨rfl, h2, k2⟩
      have H2 := Lib.hid h2
      have K2 := Lib.hid ((Kx.of_below HB1.out).trans k2)
      clear h2 k2
      go_wp2_with fail
      go_ret
      rw [HR2.out]
      exact ⟨rfl, H2.out, K2.out⟩
    have d4 : (n == a) = false := by simpa using g3
    rw [if_neg g2, if_neg g3] at HR
    have G3 := Lib.hid g3
    clear g2 g3
    go_wp2_with fail
    refine (HES.out w1 H1.out).mono ?_
    rintro e w2 ⟨v, rfl, hsl, hB2⟩
    obtain ⟨A, c, rfl, hA1, hA2⟩ := hsl.shape_ (n := L.length) rfl
    unfold maxLen at hA2
    have H2 := Lib.hid (H1.out.fresh hB2)
    have HB2 := Lib.hid (HB1.out.trans (hB2.mono HB1.out.size))
    clear hsl hB2 H1 HB1
    go_wp2_with fail
    refine (HRD.out w2 H2.out).mono ?_
    rintro e w3 ⟨rfl, hB3⟩
    have H3 := Lib.hid (H2.out.fresh hB3)
    have HB3 := Lib.hid (HB2.out.trans (hB3.mono HB2.out.size))
    clear hB3 H2 HB2
    go_wp2_with fail
    refine (rput_pb w3 n (by omega) (by omega)).mono ?_
    rintro e w4 ⟨rfl, hB4⟩
    have H4 := Lib.hid (H3.out.fresh hB4)
    have HB4 := Lib.hid (HB3.out.trans (hB4.mono HB3.out.size))
    clear hB4 H3 HB3
    go_wp2_with fail
    have hp6 := pb_len (n := n) (by omega)
    have hfp := rframePut_any w4 (Bl (pb n)) (by rw [Bl_size]; exact hp6.1) (by rw [Bl_size]; omega)
    rw [Lb_Bl, show Bl (frmL crcU (pb n)) = mkF n from rfl] at hfp
    refine hfp.mono ?_
    rintro e w5 ⟨rfl, hB5⟩
    have H5 := Lib.hid (H4.out.fresh hB5)
    have HB5 := Lib.hid (HB4.out.trans (hB5.mono HB4.out.size))
    have hfs := mkF_size (n := n) (by omega)
    clear hB5 H4 HB4 hp6 hfp
    by_cases g5 : Z = s.size
    · have d5 : ((Z : Int) == (s.size : Int)) = true := by rw [beq_iff_eq]; omega
      by_cases g6 : L.length ≤ 20
      · have d7 : decide ((L.length : Int) ≤ 20) = true := by simp; omega
        rw [if_pos (show decide (Z = s.size) = true ∧ L.length ≤ 20 from ⟨decide_eq_true g5, g6⟩)] at HR
        have l2 := app_len d sMark (mkF n)
        have hap := appendR H5.out (by omega) hu ⟨#[101, 112, 111, 99, 104]⟩ (mkF n) (by decide) (by omega)
        obtain ⟨er, her⟩ : ∃ er, (d.app ⟨#[101, 112, 111, 99, 104]⟩ (mkF n)).1 = er := ⟨_, rfl⟩
        obtain ⟨d2, hd2⟩ : ∃ d2, (d.app ⟨#[101, 112, 111, 99, 104]⟩ (mkF n)).2 = d2 := ⟨_, rfl⟩
        rw [her, hd2] at hap
        rw [show (d.app sMark (mkF n)).1 = er from her, show (d.app sMark (mkF n)).2 = d2 from hd2, show d.app sMark (mkF n) = (er, d2) from Prod.ext her hd2] at HR
        rw [show (d.app sMark (mkF n)).2 = d2 from hd2] at l2
        have L2 : Hid (d2.L.length ≤ 1000) := Lib.hid (by omega)
        have HAP := Lib.hid hap
        have G5 := Lib.hid g5
        clear hap her hd2 l2 g5
        go_wp2_with fail
        refine HAP.out.mono ?_
        rintro e w6 ⟨rfl, h6, k6⟩
        have H2 := Lib.hid h6
        have K2 := Lib.hid ((Kx.of_below HB5.out).trans k6)
        clear h6 k6
        by_cases e0 : er = 0
        · have HW0 : Hid (d.raise n = (if d2.find sMark = none then 6 else 0, d2.sync sMark)) := Lib.hid (by rw [HR.out, if_pos e0])
          have d6 : (er != 0) = false := by rw [e0]; decide
          obtain ⟨ev, hev⟩ : ∃ ev : Int, (if d2.find ⟨#[101, 112, 111, 99, 104]⟩ = none then (6 : Int) else 0) = ev := ⟨_, rfl⟩
          have hsy := syncR H2.out L2.out ⟨#[101, 112, 111, 99, 104]⟩
          rw [hev] at hsy
          rw [show (if d2.find sMark = none then (6 : Int) else 0) = ev from hev] at HW0
          have HSY := Lib.hid hsy
          clear HR hev hsy e0
          go_wp2_with fail
          refine HSY.out.mono ?_
          rintro e w9 ⟨rfl, h9, k9⟩
          have H9 := Lib.hid h9
          have K9 := Lib.hid (K2.out.trans k9)
          clear h9 k9
          go_wp2_with fail
          go_ret
          rw [HW0.out]
          exact ⟨rfl, H9.out, K9.out⟩
        · have HW0 : Hid (d.raise n = (er, d2)) := Lib.hid (by rw [HR.out, if_neg e0])
          have d6 : (er != 0) = true := by simpa using e0
          clear HR e0
          go_wp2_with fail
          go_ret
          rw [HW0.out]
          exact ⟨rfl, H2.out, K2.out⟩
      · have d7 : decide ((L.length : Int) ≤ 20) = false := by simp; omega
        rw [if_neg (show ¬ (decide (Z = s.size) = true ∧ L.length ≤ 20) from fun h => g6 h.2)] at HR
        have l2 := wr_len d sMark (mkF n)
        have hap := writeR H5.out hl hu ⟨#[101, 112, 111, 99, 104]⟩ (mkF n) (by decide) (by omega)
        obtain ⟨er, her⟩ : ∃ er, (d.wr ⟨#[101, 112, 111, 99, 104]⟩ (mkF n)).1 = er := ⟨_, rfl⟩
        obtain ⟨d2, hd2⟩ : ∃ d2, (d.wr ⟨#[101, 112, 111, 99, 104]⟩ (mkF n)).2 = d2 := ⟨_, rfl⟩
        rw [her, hd2] at hap
        rw [show (d.wr sMark (mkF n)).1 = er from her, show (d.wr sMark (mkF n)).2 = d2 from hd2, show d.wr sMark (mkF n) = (er, d2) from Prod.ext her hd2] at HR
        rw [show (d.wr sMark (mkF n)).2 = d2 from hd2] at l2
        have L2 : Hid (d2.L.length ≤ 1000) := Lib.hid (by omega)
        have HAP := Lib.hid hap
        have G5 := Lib.hid g5
        clear hap her hd2 l2 g5
        go_wp2_with fail
        refine HAP.out.mono ?_
        rintro e w6 ⟨rfl, h6, k6⟩
        have H2 := Lib.hid h6
        have K2 := Lib.hid ((Kx.of_below HB5.out).trans k6)
        clear h6 k6
        by_cases e0 : er = 0
        · have HW0 : Hid (d.raise n = (if d2.find sMark = none then 6 else 0, d2.sync sMark)) := Lib.hid (by rw [HR.out, if_pos e0])
          have d6 : (er != 0) = false := by rw [e0]; decide
          obtain ⟨ev, hev⟩ : ∃ ev : Int, (if d2.find ⟨#[101, 112, 111, 99, 104]⟩ = none then (6 : Int) else 0) = ev := ⟨_, rfl⟩
          have hsy := syncR H2.out L2.out ⟨#[101, 112, 111, 99, 104]⟩
          rw [hev] at hsy
          rw [show (if d2.find sMark = none then (6 : Int) else 0) = ev from hev] at HW0
          have HSY := Lib.hid hsy
          clear HR hev hsy e0
          go_wp2_with fail
          refine HSY.out.mono ?_
          rintro e w9 ⟨rfl, h9, k9⟩
          have H9 := Lib.hid h9
          have K9 := Lib.hid (K2.out.trans k9)
          clear h9 k9
          go_wp2_with fail
          go_ret
          rw [HW0.out]
          exact ⟨rfl, H9.out, K9.out⟩
        · have HW0 : Hid (d.raise n = (er, d2)) := Lib.hid (by rw [HR.out, if_neg e0])
          have d6 : (er != 0) = true := by simpa using e0
          clear HR e0
          go_wp2_with fail
          go_ret
          rw [HW0.out]
          exact ⟨rfl, H2.out, K2.out⟩
    · have d5 : ((Z : Int) == (s.size : Int)) = false := by rw [beq_eq_false_iff_ne]; omega
      rw [if_neg (show ¬ (decide (Z = s.size) = true ∧ L.length ≤ 20) from fun h => g5 (of_decide_eq_true h.1))] at HR
      have l2 := wr_len d sMark (mkF n)
      have hap := writeR H5.out hl hu ⟨#[101, 112, 111, 99, 104]⟩ (mkF n) (by decide) (by omega)
      obtain ⟨er, her⟩ : ∃ er, (d.wr ⟨#[101, 112, 111, 99, 104]⟩ (mkF n)).1 = er := ⟨_, rfl⟩
      obtain ⟨d2, hd2⟩ : ∃ d2, (d.wr ⟨#[101, 112, 111, 99, 104]⟩ (mkF n)).2 = d2 := ⟨_, rfl⟩
      rw [her, hd2] at hap
      rw [show (d.wr sMark (mkF n)).1 = er from her, show (d.wr sMark (mkF n)).2 = d2 from hd2, show d.wr sMark (mkF n) = (er, d2) from Prod.ext her hd2] at HR
      rw [show (d.wr sMark (mkF n)).2 = d2 from hd2] at l2
      have L2 : Hid (d2.L.length ≤ 1000) := Lib.hid (by omega)
      have HAP := Lib.hid hap
      have G5 := Lib.hid g5
      clear hap her hd2 l2 g5
      go_wp2_with fail
      refine HAP.out.mono ?_
      rintro e w6 ⟨rfl, h6, k6⟩
      have H2 := Lib.hid h6
      have K2 := Lib.hid ((Kx.of_below HB5.out).trans k6)
      clear h6 k6
      by_cases e0 : er = 0
      · have HW0 : Hid (d.raise n = (if d2.find sMark = none then 6 else 0, d2.sync sMark)) := Lib.hid (by rw [HR.out, if_pos e0])
        have d6 : (er != 0) = false := by rw [e0]; decide
        obtain ⟨ev, hev⟩ : ∃ ev : Int, (if d2.find ⟨#[101, 112, 111, 99, 104]⟩ = none then (6 : Int) else 0) = ev := ⟨_, rfl⟩
        have hsy := syncR H2.out L2.out ⟨#[101, 112, 111, 99, 104]⟩
        rw [hev] at hsy
        rw [show (if d2.find sMark = none then (6 : Int) else 0) = ev from hev] at HW0
        have HSY := Lib.hid hsy
        clear HR hev hsy e0
        go_wp2_with fail
        refine HSY.out.mono ?_
        rintro e w9 ⟨rfl, h9, k9⟩
        have H9 := Lib.hid h9
        have K9 := Lib.hid (K2.out.trans k9)
        clear h9 k9
        go_wp2_with fail
        go_ret
        rw [HW0.out]
        exact ⟨rfl, H9.out, K9.out⟩
      · have HW0 : Hid (d.raise n = (er, d2)) := Lib.hid (by rw [HR.out, if_neg e0])
        have d6 : (er != 0) = true := by simpa using e0
        clear HR e0
        go_wp2_with fail
        go_ret
        rw [HW0.out]
        exact ⟨rfl, H2.out, K2.out⟩
end Go.Proofs.YthdehdlbocgfaaaGreatDoor

/- Both disks side by side, the system's and the document's, beside a fixed past: what the manifest's acts make of them. Under the stated premises on sizes. -/
namespace Go.Proofs.YthdehdlbocgfaaaGreatDoor
open Go.RowKit Go.Bl

structure Tw (X : Nat → Prop) (w : World) (p m : Nat) (d1 d2 : Dk) : Prop where
  tabs : Tabs w
  low : ∀ k, k < 2 → X k
  hX : ∀ k, X k → k < w.heap.size
  two : ∃ F G, DskAt w p d1 F ∧ MdD w m d2 G ∧ (∀ k, F k → ¬ X k) ∧ (∀ k, G k → ¬ X k) ∧ ∀ k, F k → ¬ G k
section
variable {X : Nat → Prop} {w w' : World} {p m : Nat} {d1 d2 : Dk}
theorem Tw.fresh (h : Tw X w p m d1 d2) (hB : Below w.heap.size w w') : Tw X w' p m d1 d2 := by
  obtain ⟨ht, hl, hX, F, G, hF, hG, h1, h2, h3⟩ := h
  exact ⟨ht.fresh hB, hl, fun k hk => Nat.lt_of_lt_of_le (hX k hk) hB.size, F, G, hF.fresh hB, hG.fresh hB, h1, h2, h3⟩
theorem Tw.more {X' : Nat → Prop} (h : Tw X w p m d1 d2) (hB : Below w.heap.size w w') (hm : ∀ k, X' k → X k ∨ w.heap.size ≤ k) (hl : ∀ k, X' k → k < w'.heap.size) (hs : ∀ k, X k → X' k) : Tw X' w' p m d1 d2 := by
  obtain ⟨ht, hlo, hX, F, G, hF, hG, h1, h2, h3⟩ := h
  exact ⟨ht.fresh hB, fun k hk => hs k (hlo k hk), hl, F, G, hF.fresh hB, hG.fresh hB, fun k hk hx => (hm k hx).elim (h1 k hk) (fun h => by have := hF.lt k hk; omega), fun k hk hx => (hm k hx).elim (h2 k hk) (fun h => by have := hG.lt k hk; omega), h3⟩
theorem Tw.less {X' : Nat → Prop} (h : Tw X w p m d1 d2) (hm : ∀ k, X' k → X k) (hl : ∀ k, k < 2 → X' k) : Tw X' w p m d1 d2 := by
  obtain ⟨ht, hlo, hX, F, G, hF, hG, h1, h2, h3⟩ := h
  exact ⟨ht, hl, fun k hk => hX k (hm k hk), F, G, hF, hG, fun k hk hx => h1 k hk (hm k hx), fun k hk hx => h2 k hk (hm k hx), h3⟩
theorem Tw.ok (h : Tw X w p m d1 d2) : d1.Ok := by
  obtain ⟨_, _, _, F, G, hF, _⟩ := h
  exact hF.ok
theorem Tw.nodup (h : Tw X w p m d1 d2) : (d2.L.map Fl.name).Nodup := by
  obtain ⟨_, _, _, F, G, _, ⟨S, _, hs⟩, _⟩ := h
  exact hs.nodup
/-- An act of the system's disk. -/
theorem Tw.sys (h : Tw X w p m d1 d2) : ∃ Y : Nat → Prop, (∀ k, X k → Y k) ∧ Qd Y w p d1 ∧ ∀ w' d', Qd Y w' p d' → Kx Y w w' → Tw X w' p m d' d2 ∧ Kx X w w' := by
  obtain ⟨ht, hlo, hX, F, G, hF, hG, h1, h2, h3⟩ := h
  refine ⟨fun k => X k ∨ G k, fun k hk => .inl hk, ⟨ht, fun k hk => .inl (hlo k hk), fun k hk => hk.elim (hX k) (hG.lt k), ⟨F, hF, fun k hk hx => hx.elim (h1 k hk) (h3 k hk)⟩⟩, fun w' d' hQ hk => ?_⟩
  obtain ⟨F', hF', hd'⟩ := hQ.disk
  exact ⟨⟨hQ.tabs, hlo, fun k hx => hQ.hX k (.inl hx), F', G, hF', hG.keep hk (fun k hg hn => hn (.inr hg)), fun k hk2 hx => hd' k hk2 (.inl hx), h2, fun k hk2 hg => hd' k hk2 (.inr hg)⟩, hk.mono (fun k _ hn hx => hn (.inl hx))⟩
/-- An act of the document's disk. -/
theorem Tw.doc (h : Tw X w p m d1 d2) : ∃ Y : Nat → Prop, (∀ k, X k → Y k) ∧ Rd Y w m d2 ∧ ∀ w' d', Rd Y w' m d' → Kx Y w w' → Tw X w' p m d1 d' ∧ Kx X w w' := by
  obtain ⟨ht, hlo, hX, F, G, hF, hG, h1, h2, h3⟩ := h
  refine ⟨fun k => X k ∨ F k, fun k hk => .inl hk, ⟨fun k hk => hk.elim (hX k) (hF.lt k), G, hG, fun k hk hx => hx.elim (h2 k hk) (fun hf => h3 k hf hk)⟩, fun w' d' hQ hk => ?_⟩
  obtain ⟨hX', G', hG', hd'⟩ := hQ
  have hk2 : Keeps (fun k => ¬ (k < 2)) w w' := hk.mono (fun k _ hn h2 => hn (.inl (hlo k h2)))
  exact ⟨⟨ht.keep hk2 (fun k hk => by omega) ht.lt, hlo, fun k hx => hX' k (.inl hx), F, G', hF.keep hk (fun k hf hn => hn (.inr hf)), hG', h1, fun k hk2 hx => hd' k hk2 (.inl hx), fun k hf hg => hd' k hg (.inr hf)⟩, hk.mono (fun k _ hn hx => hn (.inl hx))⟩
theorem saveT (h : Tw X w p m d1 d2) (n : Int) (v : Value) (l : List Int) (H : Nat → Prop) (hs : Sl w H 1 intc v l) :
    Calls Tryz.prog 20 #[.pointer (some ⟨p, 0, none⟩), .agg #[.int .i64 n, v]] w fun e w' => e = .returned (.int .i64 (d1.save n l).1) ∧ Tw X w' p m (d1.save n l).2 d2 ∧ Kx X w w' := by
  obtain ⟨Y, _, hQ, hout⟩ := h.sys
  exact (saveQ hQ n v l H hs).mono fun _ w' h => ⟨h.1, hout w' _ h.2.1 h.2.2⟩
theorem saveU (h : Tw X w p m d1 d2) (hok : d2.Ok) (n : Int) (v : Value) (l : List Int) (H : Nat → Prop) (hs : Sl w H 1 intc v l) :
    Calls Tryz.prog 21 #[.pointer (some ⟨m, 0, none⟩), .agg #[.int .i64 n, v]] w fun e w' => e = .returned (.int .i64 (d2.save n l).1) ∧ Tw X w' p m d1 (d2.save n l).2 ∧ Kx X w w' := by
  obtain ⟨Y, _, hQ, hout⟩ := h.doc
  exact (saveR hQ (Nat.le_trans hok.len (by decide)) (by have h1 := hok.used; have h2 := hok.room2; unfold Dk.used; omega) n v l H hs).mono fun _ w' h => ⟨h.1, hout w' _ h.2.1 h.2.2⟩
theorem mark_le {d : Dk} (hok : d.Ok) : d.mark.length ≤ 1073741824 := by
  unfold Dk.mark
  cases hf : d.find sMark with
  | none => simp
  | some f =>
    have h1 := total_mem (find_some hf).1
    have h2 := hok.used
    have h3 := hok.room2
    show (Lb f.bytes).length ≤ _
    rw [Lb_len]
    omega
theorem used_le {d : Dk} (hok : d.Ok) : d.used ≤ 1000000000000 := by have h1 := hok.used; have h2 := hok.room2; unfold Dk.used; omega
theorem raiseT (h : Tw X w p m d1 d2) (n : Int) :
    Calls Tryz.prog 17 #[.pointer (some ⟨p, 0, none⟩), .int .i64 n] w fun e w' => e = .returned (.int .i64 (d1.raise n).1) ∧ Tw X w' p m (d1.raise n).2 d2 ∧ Kx X w w' := by
  obtain ⟨Y, _, hQ, hout⟩ := h.sys
  exact (raiseQ hQ n).mono fun _ w' h => ⟨h.1, hout w' _ h.2.1 h.2.2⟩
theorem raiseU (h : Tw X w p m d1 d2) (hok : d2.Ok) (n : Int) :
    Calls Tryz.prog 22 #[.pointer (some ⟨m, 0, none⟩), .int .i64 n] w fun e w' => e = .returned (.int .i64 (d2.raise n).1) ∧ Tw X w' p m d1 (d2.raise n).2 ∧ Kx X w w' := by
  obtain ⟨Y, _, hQ, hout⟩ := h.doc
  exact (raiseR hQ (Nat.le_trans hok.len (by decide)) (used_le hok) (mark_le hok) n).mono fun _ w' h => ⟨h.1, hout w' _ h.2.1 h.2.2⟩
theorem appendT (h : Tw X w p m d1 d2) (x s : ByteArray) (hx : x.size ≤ 1000000) (hs : s.size ≤ 1000000000) :
    Calls Tryz.prog 23 #[.pointer (some ⟨p, 0, none⟩), .string x, .string s] w fun e w' => e = .returned (.int .i64 (d1.app x s).1) ∧ Tw X w' p m (d1.app x s).2 d2 ∧ Kx X w w' := by
  obtain ⟨Y, _, hQ, hout⟩ := h.sys
  exact (appendQ hQ x s hx (by omega)).mono fun _ w' h => ⟨h.1, hout w' _ h.2.1 h.2.2⟩
theorem appendU (h : Tw X w p m d1 d2) (hok : d2.Ok) (x s : ByteArray) (hx : x.size ≤ 1000000) (hs : s.size ≤ 1000000000) :
    Calls Tryz.prog 24 #[.pointer (some ⟨m, 0, none⟩), .string x, .string s] w fun e w' => e = .returned (.int .i64 (d2.app x s).1) ∧ Tw X w' p m d1 (d2.app x s).2 ∧ Kx X w w' := by
  obtain ⟨Y, _, hQ, hout⟩ := h.doc
  exact (appendR hQ (Nat.le_trans hok.len (by decide)) (used_le hok) x s hx hs).mono fun _ w' h => ⟨h.1, hout w' _ h.2.1 h.2.2⟩
theorem deleteT (h : Tw X w p m d1 d2) (x : ByteArray) (hx : x.size ≤ 1000000) :
    Calls Tryz.prog 27 #[.pointer (some ⟨p, 0, none⟩), .string x] w fun e w' => e = .returned (.int .i64 (if d1.find x = none then 6 else 0)) ∧ Tw X w' p m (d1.del x) d2 ∧ Kx X w w' := by
  obtain ⟨Y, _, hQ, hout⟩ := h.sys
  exact (deleteQ hQ x (by unfold maxLen; omega)).mono fun _ w' h => ⟨h.1, hout w' _ h.2.1 h.2.2⟩
theorem deleteU (h : Tw X w p m d1 d2) (hok : d2.Ok) (x : ByteArray) :
    Calls Tryz.prog 28 #[.pointer (some ⟨m, 0, none⟩), .string x] w fun e w' => e = .returned (.int .i64 (if d2.find x = none then 6 else 0)) ∧ Tw X w' p m d1 (d2.del x) ∧ Kx X w w' := by
  obtain ⟨Y, _, hQ, hout⟩ := h.doc
  exact (deleteR hQ (Nat.le_trans hok.len (by decide)) x).mono fun _ w' h => ⟨h.1, hout w' _ h.2.1 h.2.2⟩
theorem crashT (h : Tw X w p m d1 d2) (kv : Value) (keep : List Int) (hk : Sl w X 1 intc kv keep) :
    Calls Tryz.prog 25 #[.pointer (some ⟨p, 0, none⟩), kv] w fun e w' => e = .returned (.tuple #[]) ∧ ∃ ks, Names d1.L ks ∧ Tw X w' p m ⟨d1.room, crashN keep ks d1.L ks.length⟩ d2 ∧ Kx X w w' := by
  obtain ⟨Y, hY, hQ, hout⟩ := h.sys
  exact (crashQ hQ kv keep (hk.mono (fun k _ hx => hY k hx))).mono fun _ w' h => by
    obtain ⟨h1, ks, h2, h3, h4⟩ := h
    exact ⟨h1, ks, h2, hout w' _ h3 h4⟩
theorem crashU (h : Tw X w p m d1 d2) (hok : d2.Ok) (kv : Value) (keep : List Int) (hk : Sl w X 1 intc kv keep) :
    Calls Tryz.prog 26 #[.pointer (some ⟨m, 0, none⟩), kv] w fun e w' => e = .returned (.tuple #[]) ∧ ∃ ks, Names d2.L ks ∧ Tw X w' p m d1 ⟨d2.room, crashN keep ks d2.L ks.length⟩ ∧ Kx X w w' := by
  obtain ⟨Y, hY, hQ, hout⟩ := h.doc
  have hsy : ∀ f ∈ d2.L, 0 ≤ f.syn ∧ f.syn ≤ f.bytes.size ∧ f.bytes.size ≤ 1073741824 := fun f hf => ⟨(hok.syn f hf).1, (hok.syn f hf).2, by have h1 := total_mem hf; have h2 := hok.used; have h3 := hok.room2; omega⟩
  exact (crashR hQ (Nat.le_trans hok.len (by decide)) hsy kv keep (hk.mono (fun k _ hx => hY k hx))).mono fun _ w' h => by
    obtain ⟨h1, ks, h2, h3, h4⟩ := h
    exact ⟨h1, ks, h2, hout w' _ h3 h4⟩
theorem epochT (h : Tw X w p m d1 d2) : Calls Tryz.prog 13 #[.pointer (some ⟨p, 0, none⟩)] w fun e w' => e = .returned (.int .i64 (epsS d1.mark).1) ∧ Below w.heap.size w w' := by
  obtain ⟨Y, _, hQ, _⟩ := h.sys
  exact epochQ hQ
theorem epochU (h : Tw X w p m d1 d2) (hok : d2.Ok) : Calls Tryz.prog 14 #[.pointer (some ⟨m, 0, none⟩)] w fun e w' => e = .returned (.int .i64 (epsS d2.mark).1) ∧ Below w.heap.size w w' := by
  obtain ⟨Y, _, hQ, _⟩ := h.doc
  exact epochR hQ (Nat.le_trans hok.len (by decide)) (mark_le hok)
theorem loadT (h : Tw X w p m d1 d2) : Calls Tryz.prog 10 #[.pointer (some ⟨p, 0, none⟩)] w fun e w' => ∃ v, e = .returned (.tuple #[.agg #[.int .i64 (ldV (d1.find sFile)).1, v], .int .i64 (ldV (d1.find sFile)).2.2]) ∧ Sl w' (fun _ => True) 1 intc v (ldV (d1.find sFile)).2.1 ∧ Below w.heap.size w w' := by
  obtain ⟨Y, _, hQ, _⟩ := h.sys
  cases hf : d1.find sFile with
  | none =>
    refine (loadNone hQ hf).mono ?_
    rintro e w' ⟨rfl, hB⟩
    exact ⟨_, rfl, Sl.nil_ _ _ _ _, hB⟩
  | some f =>
    refine (loadSome hQ f hf).mono ?_
    rintro e w' ⟨he, hB⟩
    show ∃ v, e = .returned (.tuple #[.agg #[.int .i64 (ldV (some f)).1, v], .int .i64 (ldV (some f)).2.2]) ∧ Sl w' (fun _ => True) 1 intc v (ldV (some f)).2.1 ∧ _
    by_cases hr : (ldF (Lb f.bytes)).2.2 = true
    · have e1 : ldV (some f) = ((ldF (Lb f.bytes)).1, (ldF (Lb f.bytes)).2.1, 0) := if_pos hr
      rw [if_pos hr] at he
      obtain ⟨v, rfl, hs⟩ := he
      rw [e1]
      exact ⟨v, rfl, hs.mono (fun _ _ _ => trivial), hB⟩
    · have e1 : ldV (some f) = (0, [], 2) := if_neg hr
      rw [if_neg hr] at he
      rw [e1]
      exact ⟨_, he, Sl.nil_ _ _ _ _, hB⟩
theorem loadU (h : Tw X w p m d1 d2) (hok : d2.Ok) : Calls Tryz.prog 11 #[.pointer (some ⟨m, 0, none⟩)] w fun e w' => ∃ v, e = .returned (.tuple #[.agg #[.int .i64 (ldV (d2.find sFile)).1, v], .int .i64 (ldV (d2.find sFile)).2.2]) ∧ Sl w' (fun _ => True) 1 intc v (ldV (d2.find sFile)).2.1 ∧ Below w.heap.size w w' := by
  obtain ⟨Y, _, hQ, _⟩ := h.doc
  exact loadR hQ (Nat.le_trans hok.len (by decide)) (fun f hf => by have h1 := total_mem (find_some hf).1; have h2 := hok.used; have h3 := hok.room2; omega)
end
end Go.Proofs.YthdehdlbocgfaaaGreatDoor

/- ManifestPlays: the document's Read only draws; begun, small. Under the stated premises on sizes. -/
namespace Go.Proofs.YthdehdlbocgfaaaGreatDoor
open Go.RowKit Go.Bl
attribute [local go_sem ↓] Go.wp_at_zero Go.wp_at_succ

set_option maxHeartbeats 1000000 in
theorem mread_drew (w : World) (m : Nat) (room : Int) (S : List Fl) (F : Nat → Prop) (h : MdAt w m room S F) (hl : S.length ≤ 1000000) (x : ByteArray) :
    Calls Tryz.prog 34 #[.pointer (some ⟨m, 0, none⟩), .string x] w fun e w' => e = .returned (readV (fdS S x)) ∧ ∃ n, w' = w.drewN n := by
  have hfind := find_drew w m room S F h x hl
  have H := Lib.hid h
  unfold fdS
  have hal := aheadF_le S x
  cases hx : isF S x
  · rw [hx] at hfind
    have HF := Lib.hid hfind
    rw [if_neg (by decide)]
    clear hfind hx
    go_enter Tryz.func34, Tryz.ntmps34
    go_wp2_with fail
    refine HF.out.mono ?_
    rintro e w1 ⟨rfl, nf, hwf⟩
    have HWF := Lib.hid hwf
    clear hwf
    go_wp2_with fail
    go_ret2
    exact ⟨rfl, nf, HWF.out⟩
  · obtain ⟨hk, hn⟩ := isF_yes hx
    rw [hx] at hfind
    rw [if_pos rfl, List.getElem?_eq_getElem hk]
    generalize aheadF S x = k at hk hn hfind hal ⊢
    have HF := Lib.hid hfind
    clear hfind hx hn
    go_enter Tryz.func34, Tryz.ntmps34
    go_wp2_with fail
    refine HF.out.mono ?_
    rintro e w1 ⟨rfl, nf, hwf⟩
    have hB : Below w.heap.size w w1 := by rw [hwf]; exact ⟨rfl, rfl, rfl, Nat.le_refl _, fun _ _ => rfl⟩
    have HWF := Lib.hid hwf
    clear hwf
    obtain ⟨v, h1⟩ := H.out.fresh hB
    obtain ⟨A, c, rfl, hc1, hc2⟩ := h1.row.shape_ (n := S.length) rfl
    unfold maxLen at hc2
    have c0 := h1.c0
    obtain ⟨b, o, rfl, _, _, hxx⟩ := (h1.row.sl elFl.len).cell_ hk
    have x1 := hxx 1 _ rfl
    clear hxx h1 hB
    go_wp2_with fail
    go_ret2
    exact ⟨rfl, nf, HWF.out⟩
theorem srt_nil (room : Int) : Srt ⟨room, []⟩ [] := ⟨List.Perm.refl _, List.Pairwise.nil⟩
set_option maxRecDepth 8000 in
theorem begunT {w : World} (hT : Tabs w) (room : Int) (h1 : 1 ≤ room) (h2 : room ≤ 1073741824) : Calls Tryz.prog 6 #[.int .i64 room] w fun e w' => ∃ p m, e = .returned (.tuple #[.agg #[.pointer (some ⟨p, 0, none⟩), .pointer (some ⟨m, 0, none⟩)], .bool true]) ∧ Tw (fun k => k < w.heap.size) w' p m ⟨room, []⟩ ⟨room, []⟩ ∧ Below w.heap.size w w' := by
  have HT := Lib.hid hT
  have hw1 : Below w.heap.size w (w.alloc (.cells #[.pointer none, .pointer none] 28)) := (Below.refl _ _).alloc (Nat.le_refl _) _
  have hblk := heap_alloc_new w (.cells #[.pointer none, .pointer none] 28)
  go_enter Tryz.func6, Tryz.ntmps6
  go_wp2_with fail
  obtain ⟨b0, hb0⟩ : ∃ b, w.heap.size = b := ⟨_, rfl⟩
  rw [hb0] at hblk
  generalize w.alloc (.cells #[.pointer none, .pointer none] 28) = w1 at hw1 hblk ⊢
  refine (newD w1 (fun k => k < w1.heap.size) (fun _ h => h) room h1 h2).mono ?_
  rintro e w2 ⟨p, rfl, hQ, hB2⟩
  have hb0l : b0 < w1.heap.size := (Array.getElem?_eq_some_iff.1 hblk).1
  have hblk2 := (hB2.block b0 (Array.getElem?_eq_some_iff.1 hblk).1).trans hblk
  clear hblk
  have HB2 := Lib.hid hB2
  have HBK := Lib.hid hblk2
  clear hB2 hblk2
  go_wp2_with fail
  refine (mnew_ok w2 room h1 h2).mono ?_
  rintro e w3 ⟨m, rfl, hM, hB3⟩
  have hblk3 := (hB3.block b0 (Array.getElem?_eq_some_iff.1 HBK.out).1).trans HBK.out
  have c0 : w3.cell? ⟨b0, 0, none⟩ = some (.pointer none) := cell_of_row w3 b0 0 _ _ _ hblk3
  have c1 : w3.cell? ⟨b0, 1, none⟩ = some (.pointer none) := cell_of_row w3 b0 1 _ _ _ hblk3
  have f0 : w3.frozen? ⟨b0, 0, none⟩ = false := frozen_block hblk3 0
  have f1 : w3.frozen? ⟨b0, 1, none⟩ = false := frozen_block hblk3 1
  have HQ2 := Lib.hid hQ
  have HB3 := Lib.hid hB3
  have HM := Lib.hid hM
  have HP3 := Lib.hid ((hw1.trans (HB2.out.mono hw1.size)).trans (hB3.mono (Nat.le_trans hw1.size HB2.out.size)))
  have HBK3 := Lib.hid hblk3
  clear hblk3 hQ hB3 hM
  go_wp2_with fail
  have k1 := setCell_block (o := 0) HBK3.out (.pointer (some ⟨p, 0, none⟩))
  have k2 := setCell_block (o := 1) k1 (.pointer (some ⟨m, 0, none⟩))
  have q0 := cell_of_row _ b0 0 _ _ _ k2
  have q1 := cell_of_row _ b0 1 _ _ _ k2
  have hk : Keeps (fun k => k = b0) w3 ((w3.setCell ⟨b0, 0, none⟩ (.pointer (some ⟨p, 0, none⟩))).setCell ⟨b0, 1, none⟩ (.pointer (some ⟨m, 0, none⟩))) :=
    ((Keeps.refl (fun k => k = b0) w3).setCell (p := ⟨b0, 0, none⟩) (fun _ => rfl) _).setCell (p := ⟨b0, 1, none⟩) (fun _ => rfl) _
  have hb0g : w.heap.size ≤ b0 := Nat.le_of_eq hb0
  have hpast := (HP3.out.setCell (p := ⟨b0, 0, none⟩) hb0g (.pointer (some ⟨p, 0, none⟩))).setCell (p := ⟨b0, 1, none⟩) hb0g (.pointer (some ⟨m, 0, none⟩))
  generalize (w3.setCell ⟨b0, 0, none⟩ (.pointer (some ⟨p, 0, none⟩))).setCell ⟨b0, 1, none⟩ (.pointer (some ⟨m, 0, none⟩)) = w4 at k2 q0 q1 hk hpast ⊢
  obtain ⟨F, hF, hFX⟩ := HQ2.out
  have hs12 := HB2.out.size
  have hlt2 := hF.lt
  refine bodyPost_ret (v := .tuple #[.agg #[.pointer (some ⟨p, 0, none⟩), .pointer (some ⟨m, 0, none⟩)], .bool true]) (by simp [results, Tryz.results6, go_sem, q0, q1]) rfl ⟨p, m, rfl, ⟨HT.out.fresh hpast, fun k hk => Nat.lt_of_lt_of_le hk HT.out.lt, fun k hk => Nat.lt_of_lt_of_le hk hpast.size, F, _, (hF.fresh HB3.out).keep hk (fun k hf e => hFX k hf (e ▸ hb0l)), ⟨[], HM.out.keep hk (fun k hg e => by have := hg.1; omega), srt_nil room⟩, fun k hf hx => hFX k hf (Nat.lt_of_lt_of_le hx hw1.size), fun k hg hx => by have := hg.1; have := hw1.size; omega, fun k hf hg => by have := hlt2 k hf; have := hg.1; omega⟩, hpast⟩
end Go.Proofs.YthdehdlbocgfaaaGreatDoor

/- ManifestPlays: alike answers true. Under the stated premises on sizes. -/
namespace Go.Proofs.YthdehdlbocgfaaaGreatDoor
open Go.RowKit Go.Bl
attribute [local go_sem ↓] Go.wp_at_zero Go.wp_at_succ

set_option maxRecDepth 8000 in
set_option maxHeartbeats 8000000 in
theorem alikeT {X : Nat → Prop} {w : World} {p m : Nat} {d : Dk} (h : Tw X w p m d d) :
    Calls Tryz.prog 9 #[.agg #[.pointer (some ⟨p, 0, none⟩), .pointer (some ⟨m, 0, none⟩)]] w fun e w' => e = .returned (.bool true) ∧ Below w.heap.size w w' := by
  have hok := h.ok
  obtain ⟨_, _, _, F, G, hF, ⟨S, hM, hs⟩, _, _, _⟩ := h
  have hD : Dsk (fun _ => False) w p d := ⟨F, hF, fun _ _ hx => hx⟩
  have hl40 := hok.len
  have hlS : S.length ≤ 40 := by rw [hs.perm.length_eq]; exact hl40
  have huT := hs.used
  have hu30 : d.used ≤ 1073741824 := by
    have h1 := hok.used
    have h2 := hok.room2
    unfold Dk.used
    omega
  have hB0 : Below w.heap.size w (w.alloc (.cells #[.pointer (some ⟨p, 0, none⟩), .pointer (some ⟨m, 0, none⟩)] 28)) := (Below.refl _ w).alloc (Nat.le_refl _) _
  have hblk := heap_alloc_new w (.cells #[.pointer (some ⟨p, 0, none⟩), .pointer (some ⟨m, 0, none⟩)] 28)
  have HD := Lib.hid (hD.fresh hB0)
  have HM := Lib.hid (hM.fresh hB0)
  have HBA := Lib.hid hB0
  have HBK := Lib.hid hblk
  have Hs := Lib.hid hs
  have HOK := Lib.hid hok
  clear hD hM hs hok hF hB0 hblk
  go_enter Tryz.func9, Tryz.ntmps9
  go_upto_region 1 with (fail)
  obtain ⟨b, hb⟩ : ∃ b, w.heap.size = b := ⟨_, rfl⟩
  have hbw : w.heap.size ≤ (w.alloc (.cells #[.pointer (some ⟨p, 0, none⟩), .pointer (some ⟨m, 0, none⟩)] 28)).heap.size := HBA.out.size
  rw [hb] at HBK HBA ⊢
  generalize w.alloc (.cells #[.pointer (some ⟨p, 0, none⟩), .pointer (some ⟨m, 0, none⟩)] 28) = w0 at HD HM HBA HBK hbw ⊢
  have c0 : w0.cell? ⟨b, 0, none⟩ = some (.pointer (some ⟨p, 0, none⟩)) := cell_of_row w0 b 0 _ _ _ HBK.out
  have c1 : w0.cell? ⟨b, 1, none⟩ = some (.pointer (some ⟨m, 0, none⟩)) := cell_of_row w0 b 1 _ _ _ HBK.out
  have hbl := (Array.getElem?_eq_some_iff.1 HBK.out).1
  go_wp2_with fail
  refine (listD w0 _ p d HD.out).mono ?_
  rintro e w1 ⟨v, ks, rfl, hN, hB1, hS1⟩
  obtain ⟨A1, cc1, rfl, ha1, ha2⟩ := hS1.shape
  unfold maxLen at ha2
  have c0 := (hB1.cell (p := ⟨b, 0, none⟩) hbl).trans c0
  have c1 := (hB1.cell (p := ⟨b, 1, none⟩) hbl).trans c1
  have HN := Lib.hid hN
  have HB1 := Lib.hid hB1
  have HS1 := Lib.hid hS1
  clear hN hB1 hS1
  go_wp2_with fail
  refine (mlist_any w1 m d.room S G (HM.out.fresh HB1.out) (by omega)).mono ?_
  rintro e w2 ⟨v2, rfl, hO2, hB2⟩
  have hks : S.map Fl.name = ks := Names.uniq Hs.out.names HN.out
  rw [hks] at hO2
  obtain ⟨A2, cc2, rfl, hb1, hb2⟩ := hO2.shape_ (n := ks.length) rfl
  unfold maxLen at hb2
  have hkl : ks.length ≤ 40 := by rw [← hks, List.length_map]; exact hlS
  have HB2 := Lib.hid (HB1.out.trans (hB2.mono HB1.out.size))
  have c0 := (HB2.out.cell (p := ⟨b, 0, none⟩) hbl).trans (cell_of_row w0 b 0 _ _ _ HBK.out)
  have c1 := (HB2.out.cell (p := ⟨b, 1, none⟩) hbl).trans (cell_of_row w0 b 1 _ _ _ HBK.out)
  have c0 : w2.cell? ⟨b, 0, none⟩ = some (.pointer (some ⟨p, 0, none⟩)) := c0
  have c1 : w2.cell? ⟨b, 1, none⟩ = some (.pointer (some ⟨m, 0, none⟩)) := c1
  have HS2 := Lib.hid (hO2.sl elStrD.len)
  have HS1 := Lib.hid (HS1.out.fresh hB2)
  have HD2 := Lib.hid (HD.out.fresh HB2.out)
  have HM2 := Lib.hid (HM.out.fresh HB2.out)
  clear hO2 hB2 hks
  have Q1 : Hid (∀ n, Calls Tryz.prog 31 #[.pointer (some ⟨p, 0, none⟩)] (w2.drewN n) fun e w' => e = .returned (.int .i64 d.used) ∧ ∃ n', w' = w2.drewN n') := Lib.hid (fun n =>
    (usedD (w2.drewN n) _ p d (HD2.out.drewN n)).mono fun _ _ h => ⟨h.1, _, h.2.symm⟩)
  have Q2 : Hid (∀ n, Calls Tryz.prog 32 #[.pointer (some ⟨m, 0, none⟩)] (w2.drewN n) fun e w' => e = .returned (.int .i64 d.used) ∧ ∃ n', w' = w2.drewN n') := Lib.hid (fun n => by
    have := mused_any (w2.drewN n) m d.room S G (HM2.out.fresh ⟨rfl, rfl, rfl, Nat.le_refl _, fun _ _ => rfl⟩) (by omega) (by omega)
    rw [huT] at this
    exact this.mono fun _ _ h => ⟨h.1, _, h.2.symm⟩)
  clear huT
  go_wp2_with fail
  go_quiet (first | exact Q1.out _ | exact Q2.out _)
  go_wp2_with fail
  clear Q1 Q2
  go_loopw [5, 6, 7, 8, 9] (fun i _ _ _ _ wr => ∃ k : Nat, k ≤ ks.length ∧ i = .int .i64 k ∧ Below w2.heap.size w2 wr) (fun i _ _ _ _ _ => ks.length - (RowKit.intOf i).toNat)
  case atStart => exact ⟨0, Nat.zero_le _, rfl, ⟨rfl, rfl, rfl, Nat.le_refl _, fun _ _ => rfl⟩⟩
  case round =>
    obtain ⟨k, hk, rfl, hB⟩ := hrel
    have HB := Lib.hid hB
    have c0 := (hB.cell (p := ⟨b, 0, none⟩) (World.block_lt_of_cell? _ _ c0)).trans c0
    have c1 := (hB.cell (p := ⟨b, 1, none⟩) (World.block_lt_of_cell? _ _ c1)).trans c1
    clear hB
    by_cases hlt : k < ks.length
    · have d0 : decide ((k : Int) < (ks.length : Int)) = true := by simp; omega
      obtain ⟨f, hfL, hfx⟩ := (HN.out.2 _).1 (List.getElem_mem hlt)
      have hfi := find_mem HD2.out.nodup hfL
      have hnm := HOK.out.nms f hfL
      rw [hfx] at hfi hnm
      have HFI := Lib.hid hfi
      obtain ⟨b1, o1, rfl, _, _, hxx⟩ := (HS1.out.fresh HB.out).cell_ hlt
      have x0 := hxx 0 _ rfl
      obtain ⟨b2, o2, rfl, _, _, hyy⟩ := (HS2.out.fresh HB.out).cell_ hlt
      have y0 := hyy 0 _ rfl
      simp only [Nat.mul_one, Nat.add_zero] at x0 y0
      have Q3 : Hid (∀ W, Below wr.heap.size wr W → ∀ n, Calls Tryz.prog 33 #[.pointer (some ⟨p, 0, none⟩), .string ks[k]] (W.drewN n) fun e w' => e = .returned (.tuple #[.string f.bytes, .int .i64 0]) ∧ ∃ n', w' = W.drewN n') := Lib.hid (fun W hW n => by
        have := readD (W.drewN n) _ p d (((HD2.out.fresh HB.out).fresh hW).drewN n) ks[k] (by unfold maxLen; omega)
        rw [HFI.out] at this
        exact this.mono fun _ _ h => ⟨h.1, _, h.2.symm⟩)
      have Q4 : Hid (∀ W, Below wr.heap.size wr W → ∀ n, Calls Tryz.prog 34 #[.pointer (some ⟨m, 0, none⟩), .string ks[k]] (W.drewN n) fun e w' => e = .returned (.tuple #[.string f.bytes, .int .i64 0]) ∧ ∃ n', w' = W.drewN n') := Lib.hid (fun W hW n => by
        have := mread_drew (W.drewN n) m d.room S G (((HM2.out.fresh HB.out).fresh hW).fresh ⟨rfl, rfl, rfl, Nat.le_refl _, fun _ _ => rfl⟩) (by omega) ks[k]
        rw [← Hs.out.find, HFI.out] at this
        exact this.mono fun _ _ h => by
          obtain ⟨h1, n', h2⟩ := h
          exact ⟨h1, n + n', h2.trans (World.drewN_drewN _ _ _)⟩)
      have Q5 : Hid (∀ W, Below wr.heap.size wr W → ∀ n, Calls Tryz.prog 35 #[.pointer (some ⟨p, 0, none⟩), .string ks[k]] (W.drewN n) fun e w' => e = .returned (.int .i64 f.syn) ∧ ∃ n', w' = W.drewN n') := Lib.hid (fun W hW n => by
        have := syncedD (W.drewN n) _ p d (((HD2.out.fresh HB.out).fresh hW).drewN n) ks[k] (by unfold maxLen; omega)
        rw [HFI.out] at this
        exact this.mono fun _ _ h => ⟨h.1, _, h.2.symm⟩)
      have Q6 : Hid (∀ W, Below wr.heap.size wr W → ∀ n, Calls Tryz.prog 36 #[.pointer (some ⟨m, 0, none⟩), .string ks[k]] (W.drewN n) fun e w' => e = .returned (.int .i64 f.syn) ∧ ∃ n', w' = W.drewN n') := Lib.hid (fun W hW n => by
        have := msynced_drew (W.drewN n) m d.room S G (((HM2.out.fresh HB.out).fresh hW).fresh ⟨rfl, rfl, rfl, Nat.le_refl _, fun _ _ => rfl⟩) (by omega) ks[k]
        rw [← Hs.out.find, HFI.out] at this
        exact this.mono fun _ _ h => by
          obtain ⟨h1, n', h2⟩ := h
          exact ⟨h1, n + n', h2.trans (World.drewN_drewN _ _ _)⟩)
      have hk0 : (0 : Int) ≤ (k : Int) := by omega
      have hk1 : (k : Int) < (ks.length : Int) := by omega
      clear hfi hxx hyy hfx hfL
      go_wp2_with fail
      go_quiet (exact Q3.out _ ⟨rfl, rfl, rfl, Nat.le_refl _, fun _ _ => rfl⟩ _)
      have hBw : Below wr.heap.size wr (wr.drewN nq) := ⟨rfl, rfl, rfl, Nat.le_refl _, fun _ _ => rfl⟩
      have e0 : (wr.drewN nq).cell? ⟨b, 0, none⟩ = _ := c0
      have e1 : (wr.drewN nq).cell? ⟨b, 1, none⟩ = _ := c1
      have z0 : (wr.drewN nq).cell? ⟨b1, o1 + k, none⟩ = _ := x0
      have z1 : (wr.drewN nq).cell? ⟨b2, o2 + k, none⟩ = _ := y0
      generalize wr.drewN nq = wa at hBw e0 e1 z0 z1 ⊢
      have HBw := Lib.hid hBw
      clear hBw
      go_wp2_with fail
      go_quiet (exact Q4.out _ HBw.out _)
      have hBw : Below wr.heap.size wr (wa.drewN nq) := HBw.out.trans ⟨rfl, rfl, rfl, Nat.le_refl _, fun _ _ => rfl⟩
      have e0' : (wa.drewN nq).cell? ⟨b, 0, none⟩ = _ := e0
      have e1' : (wa.drewN nq).cell? ⟨b, 1, none⟩ = _ := e1
      have z0' : (wa.drewN nq).cell? ⟨b1, o1 + k, none⟩ = _ := z0
      have z1' : (wa.drewN nq).cell? ⟨b2, o2 + k, none⟩ = _ := z1
      clear e0 e1 z0 z1 HBw
      generalize wa.drewN nq = wb at hBw e0' e1' z0' z1' ⊢
      have HBw := Lib.hid hBw
      clear hBw
      go_wp2_with fail
      go_quiet (first | exact Q5.out _ HBw.out _ | exact Q6.out _ HBw.out _)
      go_wp2_with fail
      go_roundw
      case rel => exact ⟨k + 1, hlt, by go_num, (HB.out.trans (HBw.out.mono HB.out.size)).trans ⟨rfl, rfl, rfl, Nat.le_refl _, fun _ _ => rfl⟩⟩
      case measure => simp [RowKit.intOf]; omega
    · have hkd : k = ks.length := by omega
      subst hkd
      have d0 : decide ((ks.length : Int) < (ks.length : Int)) = false := by simp
      go_wp2_with fail
      go_ret
      have hww : Below w.heap.size w w0 := by rw [hb]; exact HBA.out
      exact ⟨rfl, (hww.trans (HB2.out.mono hww.size)).trans (HB.out.mono (Nat.le_trans hww.size HB2.out.size))⟩
end Go.Proofs.YthdehdlbocgfaaaGreatDoor

namespace Go.Proofs.YthdehdlbocgfaaaGreatDoor
open Go.RowKit Go.Bl
attribute [local go_sem ↓] Go.wp_at_zero Go.wp_at_succ

structure Ac where
  op : Int
  n : Int
  sv : Value
  segs : List Int
  text : ByteArray
  kv : Value
  keep : List Int
def acc (a : Ac) : List Value := [.int .i64 a.op, .int .i64 a.n, a.sv, .string a.text, a.kv]
def AcOk (w : World) (G : Nat → Prop) (a : Ac) : Prop := Sl w G 1 intc a.kv a.keep ∧ Sl w G 1 intc a.sv a.segs ∧ i64 a.op ∧ i64 a.n ∧ a.text.size ≤ 140737488355328
/-- v reads as the acts l. -/
def Acts (w : World) (G : Nat → Prop) (v : Value) (l : List Ac) : Prop := Sl w G 5 acc v l ∧ ∀ a ∈ l, AcOk w G a
theorem AcOk.keep {w w' : World} {F G : Nat → Prop} {a : Ac} (h : AcOk w F a) (hk : Keeps G w w') (hd : ∀ k, k < w.heap.size → F k → ¬ G k) : AcOk w' F a := ⟨h.1.keep hk hd, h.2.1.keep hk hd, h.2.2⟩
theorem Acts.keep {w w' : World} {F G : Nat → Prop} {v : Value} {l : List Ac} (h : Acts w F v l) (hk : Keeps G w w') (hd : ∀ k, k < w.heap.size → F k → ¬ G k) : Acts w' F v l :=
  ⟨h.1.keep hk hd, fun a ha => (h.2 a ha).keep hk hd⟩
def acOk (a : Ac) : Bool := decide (a.segs.length ≤ 60) && decide (a.text.size ≤ 1000) && decide (a.keep.length ≤ 30)
def smallB (l : List Ac) : Bool := decide (l.length ≤ 60) && l.all acOk
theorem acOk_iff {a : Ac} : acOk a = true ↔ a.segs.length ≤ 60 ∧ a.text.size ≤ 1000 ∧ a.keep.length ≤ 30 := by simp [acOk, and_assoc]
theorem smallB_at {l : List Ac} (h : smallB l = true) : l.length ≤ 60 ∧ ∀ a ∈ l, a.segs.length ≤ 60 ∧ a.text.size ≤ 1000 ∧ a.keep.length ≤ 30 := by
  simp only [smallB, Bool.and_eq_true, decide_eq_true_eq, List.all_eq_true] at h
  exact ⟨h.1, fun a ha => acOk_iff.1 (h.2 a ha)⟩
theorem all_take_succ {α : Type} {p : α → Bool} {l : List α} {k : Nat} (hk : k < l.length) (h : (l.take k).all p = true) (hp : p l[k] = true) : (l.take (k + 1)).all p = true := by
  rw [List.take_succ_eq_append_getElem hk, List.all_append, h]; simp [hp]
theorem all_false_of {α : Type} {p : α → Bool} {l : List α} {k : Nat} (hk : k < l.length) (hp : p l[k] = false) : l.all p = false := by
  rw [List.all_eq_false]
  exact ⟨l[k], List.getElem_mem hk, by simp [hp]⟩

set_option maxHeartbeats 1000000 in
theorem small_any (w : World) (G : Nat → Prop) (v : Value) (l : List Ac) (h : Acts w G v l) :
    Calls Tryz.prog 5 #[v] w fun e w' => e = .returned (.bool (smallB l)) ∧ w = w' := by
  obtain ⟨A, c, rfl, hA1, hA2⟩ := h.1.shape
  unfold maxLen at hA2
  have HA := Lib.hid h
  clear h
  by_cases h60 : l.length ≤ 60
  · have d60 : decide ((60 : Int) < (l.length : Int)) = false := by simp; omega
    go_enter Tryz.func5, Tryz.ntmps5
    go_wp2_with fail
    go_loop [3] (fun i => ∃ k : Nat, k ≤ l.length ∧ i = .int .i64 k ∧ (l.take k).all acOk = true) (fun i => l.length - (intOf i).toNat)
    case atStart => exact ⟨0, Nat.zero_le _, rfl, rfl⟩
    case round =>
      obtain ⟨k, hk, rfl, hH'⟩ := hrel
      have hH := Lib.hid hH'
      clear hH'
      by_cases hlt : k < l.length
      · obtain ⟨b, o, rfl, _, _, hxx⟩ := HA.out.1.cell_ hlt
        obtain ⟨hkv, hsv, hop, hn1, hm1⟩ := HA.out.2 l[k] (List.getElem_mem hlt)
        obtain ⟨B, d, hkk, hB1, hB2⟩ := hkv.shape
        obtain ⟨B', d', hkk', hB1', hB2'⟩ := hsv.shape
        have x1 := hxx 2 _ rfl
        have x2 := hxx 3 _ rfl
        have x3 := hxx 4 _ rfl
        rw [hkk] at x3
        rw [hkk'] at x1
        unfold maxLen at hB2 hB2'
        clear hxx hkv hkk hsv hkk'
        by_cases t1 : l[k].segs.length ≤ 60
        · have d1 : decide ((60 : Int) < (l[k].segs.length : Int)) = false := by simp; omega
          by_cases t2 : l[k].text.size ≤ 1000
          · have d2 : decide ((1000 : Int) < (l[k].text.size : Int)) = false := by simp; omega
            by_cases t3 : l[k].keep.length ≤ 30
            · have d3 : decide ((30 : Int) < (l[k].keep.length : Int)) = false := by simp; omega
              go_wp2_with fail
              go_round
              case rel => exact ⟨k + 1, by omega, by go_num, all_take_succ hlt hH.out (acOk_iff.2 ⟨t1, t2, t3⟩)⟩
              case measure => simp [intOf]; omega
            · have d3 : decide ((30 : Int) < (l[k].keep.length : Int)) = true := by simp; omega
              go_wp2_with fail
              go_ret
              have : smallB l = false := by
                simp only [smallB, Bool.and_eq_false_iff]
                exact .inr (all_false_of hlt (by simp [acOk, t3]))
              rw [this]
              exact ⟨rfl, rfl⟩
          · have d2 : decide ((1000 : Int) < (l[k].text.size : Int)) = true := by simp; omega
            go_wp2_with fail
            go_ret
            have : smallB l = false := by
              simp only [smallB, Bool.and_eq_false_iff]
              exact .inr (all_false_of hlt (by simp [acOk, t2]))
            rw [this]
            exact ⟨rfl, rfl⟩
        · have d1 : decide ((60 : Int) < (l[k].segs.length : Int)) = true := by simp; omega
          go_wp2_with fail
          go_ret
          have : smallB l = false := by
            simp only [smallB, Bool.and_eq_false_iff]
            exact .inr (all_false_of hlt (by simp [acOk, t1]))
          rw [this]
          exact ⟨rfl, rfl⟩
      · have hkd : k = l.length := by omega
        subst hkd
        go_wp2_with fail
        go_ret
        have h1 := hH.out
        rw [List.take_of_length_le (Nat.le_refl _)] at h1
        have : smallB l = true := by simp [smallB, h60, h1]
        rw [this]
        exact ⟨rfl, rfl⟩
  · have d60 : decide ((60 : Int) < (l.length : Int)) = true := by simp; omega
    go_enter Tryz.func5, Tryz.ntmps5
    go_wp2_with fail
    go_ret
    have : smallB l = false := by simp [smallB, h60]
    rw [this]
    exact ⟨rfl, rfl⟩
end Go.Proofs.YthdehdlbocgfaaaGreatDoor
