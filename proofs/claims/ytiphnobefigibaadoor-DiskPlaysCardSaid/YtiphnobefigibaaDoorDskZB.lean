/- Two disks alike: the statements' function alike answers true. Under the stated premises on sizes. -/
import Derived.Test.YtiphnobefigibaaDoorDskZA
import Derived.Test.YtiphnobefigibaaDoorDskH
namespace Go.Proofs.YtiphnobefigibaaDoor
open Go.RowKit Go.Bl
attribute [local go_sem ↓] Go.wp_at_zero Go.wp_at_succ

set_option maxRecDepth 8000 in
set_option maxHeartbeats 4000000 in
theorem alike_any (w : World) (X F : Nat → Prop) (p m : Nat) (d : Dk) (hD : Dsk X w p d) (hM : MdD w m d F) :
    Calls Tryd.prog 22 #[.pointer (some ⟨p, 0, none⟩), .pointer (some ⟨m, 0, none⟩)] w fun e w' => e = .returned (.bool true) ∧ Below w.heap.size w w' := by
  obtain ⟨S, hM, hs⟩ := hM
  have hok := hD.ok
  have hl40 := hok.len
  have hlS : S.length ≤ 40 := by rw [hs.perm.length_eq]; exact hl40
  have huT := hs.used
  have hu30 : d.used ≤ 1073741824 := by
    have h1 := hok.used
    have h2 := hok.room2
    unfold Dk.used
    omega
  have HD := Lib.hid hD
  have HM := Lib.hid hM
  have Hs := Lib.hid hs
  have HOK := Lib.hid hok
  clear hD hM hs hok
  go_enter Tryd.func22, Tryd.ntmps22
  go_wp2_with fail
  refine (listD w _ p d HD.out).mono ?_
  rintro e w1 ⟨v, ks, rfl, hN, hB1, hS1⟩
  obtain ⟨A1, c1, rfl, ha1, ha2⟩ := hS1.shape
  unfold maxLen at ha2
  have HN := Lib.hid hN
  have HB1 := Lib.hid hB1
  have HS1 := Lib.hid hS1
  clear hN hB1 hS1
  go_wp2_with fail
  refine (mlist_any w1 m d.room S F (HM.out.fresh HB1.out) (by omega)).mono ?_
  rintro e w2 ⟨v2, rfl, hO2, hB2⟩
  have hks : S.map Fl.name = ks := Names.uniq Hs.out.names HN.out
  rw [hks] at hO2
  obtain ⟨A2, c2, rfl, hb1, hb2⟩ := hO2.shape_ (n := ks.length) rfl
  unfold maxLen at hb2
  have hkl : ks.length ≤ 40 := by rw [← hks, List.length_map]; exact hlS
  have HB2 := Lib.hid (HB1.out.trans (hB2.mono HB1.out.size))
  have HS2 := Lib.hid (hO2.sl elStrD.len)
  have HS1 := Lib.hid (HS1.out.fresh hB2)
  have HD2 := Lib.hid (HD.out.fresh HB2.out)
  have HM2 := Lib.hid (HM.out.fresh HB2.out)
  clear hO2 hB2 hks
  go_wp2_with fail
  refine (usedD w2 _ p d HD2.out).mono ?_
  rintro e w3 ⟨rfl, rfl⟩
  go_wp2_with fail
  refine (mused_any w2 m d.room S F HM2.out (by omega) (by omega)).mono ?_
  rintro e w3 ⟨rfl, rfl⟩
  rw [huT]
  clear huT
  go_wp2_with fail
  go_loopw [7, 8, 9, 10, 11] (fun i _ _ _ _ wr => ∃ k : Nat, k ≤ ks.length ∧ i = .int .i64 k ∧ Below w2.heap.size w2 wr) (fun i _ _ _ _ _ => ks.length - (RowKit.intOf i).toNat)
  case atStart => exact ⟨0, Nat.zero_le _, rfl, Below.refl _ _⟩
  case round =>
    obtain ⟨k, hk, rfl, hB⟩ := hrel
    have HB := Lib.hid hB
    clear hB
    by_cases hlt : k < ks.length
    · obtain ⟨f, hfL, hfx⟩ := (HN.out.2 _).1 (List.getElem_mem hlt)
      have hfi := find_mem HD2.out.nodup hfL
      have hnm := HOK.out.nms f hfL
      rw [hfx] at hfi hnm
      have HFI := Lib.hid hfi
      have HDr := Lib.hid (HD2.out.fresh HB.out)
      have HMr := Lib.hid (HM2.out.fresh HB.out)
      obtain ⟨b1, o1, rfl, _, _, hxx⟩ := (HS1.out.fresh HB.out).cell_ hlt
      have x0 := hxx 0 _ rfl
      obtain ⟨b2, o2, rfl, _, _, hyy⟩ := (HS2.out.fresh HB.out).cell_ hlt
      have y0 := hyy 0 _ rfl
      simp only [Nat.mul_one, Nat.add_zero] at x0 y0
      have q1 := readD wr _ p d HDr.out ks[k] (by unfold maxLen; omega)
      have q2 := mread_any wr m d.room S F HMr.out (by omega) ks[k]
      rw [← Hs.out.find] at q2
      rw [hfi] at q1 q2
      have Q1 := Lib.hid q1
      have Q2 := Lib.hid q2
      have hk0 : (0 : Int) ≤ (k : Int) := by omega
      have hk1 : (k : Int) < (ks.length : Int) := by omega
      clear hfi q1 q2 hxx hyy hfx hfL
      go_wp2_with fail
      refine Q1.out.mono ?_
      rintro e w4 ⟨he, rfl⟩
      obtain rfl : e = .returned (.tuple #[.string f.bytes, .int .i64 0]) := he
      go_wp2_with fail
      refine Q2.out.mono ?_
      rintro e w4 ⟨he, hB4⟩
      obtain rfl : e = .returned (.tuple #[.string f.bytes, .int .i64 0]) := he
      have HB4 := Lib.hid (HB.out.trans (hB4.mono HB.out.size))
      have x1 := (hB4.cell (p := ⟨b1, o1 + k, none⟩) (World.block_lt_of_cell? _ _ x0)).trans x0
      have y1 := (hB4.cell (p := ⟨b2, o2 + k, none⟩) (World.block_lt_of_cell? _ _ y0)).trans y0
      clear x0 y0 hB4
      have Q3 : Hid (∀ n, Calls Tryd.prog 26 #[.pointer (some ⟨p, 0, none⟩), .string ks[k]] (w4.drewN n) fun e w' => e = .returned (.int .i64 f.syn) ∧ ∃ n', w' = w4.drewN n') := Lib.hid (fun n => by
        have := syncedD (w4.drewN n) _ p d ((HD2.out.fresh HB4.out).drewN n) ks[k] (by unfold maxLen; omega)
        rw [HFI.out] at this
        exact this.mono fun _ _ h => ⟨h.1, _, h.2.symm⟩)
      have Q4 : Hid (∀ n, Calls Tryd.prog 37 #[.pointer (some ⟨m, 0, none⟩), .string ks[k]] (w4.drewN n) fun e w' => e = .returned (.int .i64 f.syn) ∧ ∃ n', w' = w4.drewN n') := Lib.hid (fun n => by
        have := msynced_drew (w4.drewN n) m d.room S F ((HM2.out.fresh HB4.out).fresh ⟨rfl, rfl, rfl, Nat.le_refl _, fun _ _ => rfl⟩) (by omega) ks[k]
        rw [← Hs.out.find, HFI.out] at this
        exact this.mono fun _ _ h => by
          obtain ⟨h1, n', h2⟩ := h
          exact ⟨h1, n + n', h2.trans (World.drewN_drewN _ _ _)⟩)
      go_wp2_with fail
      go_quiet (first | exact Q3.out _ | exact Q4.out _)
      go_wp2_with fail
      go_roundw
      case rel => exact ⟨k + 1, hlt, by go_num, HB4.out.trans ⟨rfl, rfl, rfl, Nat.le_refl _, fun _ _ => rfl⟩⟩
      case measure => simp [RowKit.intOf]; omega
    · have hkd : k = ks.length := by omega
      subst hkd
      go_wp2_with fail
      go_ret
      exact ⟨rfl, HB2.out.trans (HB.out.mono HB2.out.size)⟩
end Go.Proofs.YtiphnobefigibaaDoor
