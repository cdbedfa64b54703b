/- Numbers as bytes: num.Take. -/
import Derived.Test.YthebmbhdlkldiaaGreatDoorBlA
import Derived.Laws.IdiomStrings
import Derived.Test.YthebmbhdlkldiaaGreatDoorNumP
import Derived.Test.YthebmbhdlkldiaaGreatDoorProg
import Derived.Lib.Hide
import Derived.Laws.BitsAllLaws
import Derived.Test.YthebmbhdlkldiaaGreatDoorBlL
import Derived.Test.YthebmbhdlkldiaaGreatDoorBlB
import Derived.BigQuiet
/- Texts as bytes and back. Proved for every program; no condition. -/
namespace Go.Bl
open Go.RowKit

/-- The bytes of t lie from the cell o of the block b on. -/
def BytesAt (w : World) (b o : Nat) (t : ByteArray) : Prop := ∀ j u, t.data[j]? = some u → w.cell? ⟨b, o + j, none⟩ = some (.int .u8 u.toNat)

theorem size_drew_alloc (w : World) (o : Obj) : (w.drew.alloc o).heap.size = w.heap.size + 1 := World.size_alloc w.drew o
theorem keeps_drew_alloc (w : World) (o : Obj) : Keeps (fun _ => False) w (w.drew.alloc o) := ((Keeps.refl _ w).drew).alloc o
theorem to_bytes {P : Program} {src dst e : TypeId} (hs : P.underlying src = some .string) (hd : P.underlying dst = some (.slice e)) (he : P.underlying e = some (.int .u8)) (w : World) (s : ByteArray) :
    ∃ cap w1, (convert src dst (.string s)).run P w = .ok (.slice (some ⟨w.heap.size, 0, none⟩) s.size cap) w1 ∧ s.size ≤ cap ∧ w1.heap.size = w.heap.size + 1 ∧ Keeps (fun _ => False) w w1 ∧
      BytesAt w1 w.heap.size 0 s ∧ ∀ o, o < s.size → w1.frozen? ⟨w.heap.size, o, none⟩ = false := by
  have hrow : s.size ≤ (bytesRow s (grownCap w s.size 0 e)).size := by unfold bytesRow; simp
  refine ⟨_, _, run_bytes_of_string w src dst e s hs hd he, grownCap_ge w s.size 0 e, size_drew_alloc _ _, keeps_drew_alloc _ _, ?_, ?_⟩
  · intro j u hu
    have hj : j < s.data.size := (Array.getElem?_eq_some_iff.1 hu).1
    have hblk := heap_alloc_new w.drew (.cells (bytesRow s (grownCap w s.size 0 e)) e ((bytesRow s (grownCap w s.size 0 e)).size, (bytesRow s (grownCap w s.size 0 e)).size + 1))
    rw [show w.heap.size = w.drew.heap.size from rfl, Nat.zero_add, cell_of_row _ _ j _ _ _ hblk]
    unfold bytesRow
    rw [Array.getElem?_append_left (by simpa using hj), Array.getElem?_map, hu]
    rfl
  · intro o ho
    have hblk := heap_alloc_new w.drew (.cells (bytesRow s (grownCap w s.size 0 e)) e ((bytesRow s (grownCap w s.size 0 e)).size, (bytesRow s (grownCap w s.size 0 e)).size + 1))
    rw [show w.heap.size = w.drew.heap.size from rfl]
    generalize bytesRow s (grownCap w s.size 0 e) = C at hblk hrow ⊢
    unfold World.frozen?
    rw [hblk]
    simp only [Bool.and_eq_false_iff, decide_eq_false_iff_not]
    exact .inl (by omega)

theorem from_bytes {P : Program} {src dst e : TypeId} (hs : P.underlying src = some (.slice e)) (he : P.underlying e = some (.int .u8)) (hd : P.underlying dst = some .string) (w : World) (b o cap n : Nat) (t : ByteArray) (hn : t.size = n) (hc : BytesAt w b o t) :
    (convert src dst (.slice (some ⟨b, o, none⟩) n cap)).run P w = .ok (.string t) w := by
  subst hn
  have := run_convert_bytes_back (P := P) w src dst e ⟨b, o, none⟩ cap t.data.toList hs he hd (fun j hj => by
    have h1 := hc j (t.data.toList[j]) (by simp at hj; simp [hj])
    have h2 : (⟨b, o, none⟩ : Addr).add j = ⟨b, o + j, none⟩ := by unfold Addr.add; split <;> simp_all
    rw [h2]; exact h1)
  simpa using this
end Go.Bl

/- Numbers as bytes: num.hold, num.Put. -/
namespace Go.Proofs.YthebmbhdlkldiaaGreatDoor
open Go.RowKit Go.Bl
attribute [local go_sem ↓] Go.wp_at_zero Go.wp_at_succ

def u8c (x : Nat) : List Value := [.int .u8 x]
theorem u8c_one (x : Nat) (u : Value) (h : u ∈ u8c x) : u.oneCell' = true := by
  simp [u8c] at h; subst h; rfl
theorem infoU8N : (Tryz.prog.info? 5).map (fun i => (i.zero, i.size, i.bytes)) = some (some (.int .u8 0), 1, 1) := by kernel_rfl
theorem elU8 : El Tryz.prog 80 5 1 1 u8c := ⟨Tryz.underlying80, ⟨_, infoU8N, rfl⟩, by decide, by decide, fun _ => rfl, u8c_one⟩
def holdI (n a b : Int) : Int := gmax a (gmin n b)
theorem hold_any (w : World) (n a b : Int) : Calls Tryz.prog 87 #[.int .i64 n, .int .i64 a, .int .i64 b] w fun e w' => e = .returned (.int .i64 (holdI n a b)) ∧ w = w' := by
  have hmx := @run_gmax Tryz.prog
  have hmn := @run_gmin Tryz.prog
  go_enter Tryz.func87, Tryz.ntmps87
  go_wp2_with fail
  go_ret
  exact ⟨rfl, rfl⟩
theorem bytesOf_lt {l : List Nat} (h : ∀ x ∈ l, x < 256) (i : Nat) (x : Nat) (hx : l[i]? = some x) : (bytesOf l)[i]? = some (UInt8.ofNat x) ∧ (UInt8.ofNat x).toNat = x := by
  have hm := List.mem_of_getElem? hx
  have := h x hm
  unfold bytesOf
  rw [List.getElem?_map, hx]
  exact ⟨rfl, by simp; omega⟩
/-- A slice of bytes, as a text. -/
theorem Sl.str {w : World} {F : Nat → Prop} {v : Value} {l : List Nat} (h : Sl w F 1 u8c v l) (h0 : 0 < l.length) (hl : ∀ x ∈ l, x < 256) : (convert 80 9 v).run Tryz.prog w = .ok (.string (Bl (bytesOf l))) w := by
  obtain ⟨A, c, rfl, h2, h3, h4⟩ := h
  obtain ⟨b, o, rfl, _, _, hc⟩ := h4 h0
  refine from_bytes Tryz.underlying80 Tryz.underlying5 Tryz.underlying9 w b o c l.length _ (by rw [Bl_size]; unfold bytesOf; simp) (fun j u hu => ?_)
  have hj : j < l.length := by
    have := (Array.getElem?_eq_some_iff.1 hu).1
    unfold Bl bytesOf at this
    simpa using this
  have h1 := bytesOf_lt hl j l[j] (List.getElem?_eq_getElem hj)
  have h5 : (bytesOf l)[j]? = some u := by
    have : (Bl (bytesOf l)).data[j]? = (bytesOf l)[j]? := by unfold Bl; simp
    rw [← this]; exact hu
  rw [h1.1] at h5
  obtain rfl := Option.some.inj h5
  have := hc j hj 0 (.int .u8 l[j]) rfl
  rw [h1.2]
  simpa using this
set_option maxRecDepth 8000 in
theorem or128 (a : Nat) (h : a < 256) : bits .or .u8 (a : Int) 128 = ((a % 128 + 128 : Nat) : Int) := by
  have := Go.u8_or_nat a 128 h (by decide)
  rw [show ((128 : Nat) : Int) = 128 from rfl] at this
  rw [this]
  have h2 : ∀ a < 256, a ||| 128 = a % 128 + 128 := by decide
  rw [h2 a h]
def putB (n : Nat) : ByteArray := Bl (bytesOf (putL n))
set_option maxRecDepth 8000 in
set_option maxHeartbeats 2000000 in
theorem put_any (w : World) (n : Int) (N : Nat) (hN : holdI n 0 1099511627776 = (N : Int)) : Calls Tryz.prog 35 #[.int .i64 n] w fun e w' => e = .returned (.string (putB N)) ∧ Below w.heap.size w w' := by
  have hNb : N ≤ 1099511627776 := by unfold holdI gmax gmin at hN; omega
  have hh := hold_any w n 0 1099511627776
  rw [hN] at hh
  have HH := Lib.hid hh
  have HP := Lib.hid (putL_len 5 N (by omega))
  clear hh hN
  go_enter Tryz.func35, Tryz.ntmps35
  go_wp2_with fail
  refine HH.out.mono ?_
  rintro e w1 ⟨rfl, rfl⟩
  go_wp2_with fail
  go_loopw [0, 3] (fun n v wr => ∃ (k : Nat) (done : List Nat), Hid (putL N = done ++ putL k) ∧ k ≤ 1099511627776 ∧ done.length ≤ 6 ∧ n = .int .i64 k ∧ Own wr w.heap.size 5 1 u8c v done ∧ Below w.heap.size w wr) (fun n _ _ => (intOf n).toNat)
  case atStart => exact ⟨N, [], Lib.hid rfl, hNb, Nat.zero_le _, rfl, Own.nil_ _ _ _ _ _, Below.refl _ _⟩
  case round =>
    obtain ⟨k, done, hp, hkb, hdl, rfl, hO, hB⟩ := hrel
    by_cases h128 : k < 128
    · have d1 : decide ((128 : Int) ≤ (k : Int)) = false := by simp; omega
      have hpk : Hid (putL N = done ++ [k]) := Lib.hid (by rw [hp.out, putL_small h128])
      go_wp2_with (at_builtin; refine elU8.append _ (by rfl) _ _ rfl w.heap.size _ _ rfl (hO.fresh ((Below.refl _ _).alloc (Nat.le_refl _) _)) _ _ [k] rfl (Sl.single (heap_alloc_new _ _) rfl) ?_ ?_ ?_; (simp; omega); (have := hB.size; simp; omega); intro v' w4 hown' hgrow hat; have HO := Lib.hid hown'; clear hown'; go_loud (have hstr := Sl.str (HO.out.sl elU8.len) (by simp) (fun x hx => putL_lt (N + 1) N (by omega) x (by rw [hpk.out]; exact hx))))
      go_ret
      rw [← hpk.out] at *
      exact ⟨rfl, (hB.alloc hB.size _).grown hgrow (by have := hB.size; simp; omega) (fun q e => (hO.lt q e).1)⟩
    · have d1 : decide ((128 : Int) ≤ (k : Int)) = true := by simp; omega
      obtain ⟨x, hx⟩ : ∃ x, x = k % 128 + 128 := ⟨_, rfl⟩
      have hor : bits .or .u8 ((k : Int) % 256) 128 = (x : Int) := by
        have := or128 (k % 256) (by omega)
        rw [show ((k % 256 : Nat) : Int) = (k : Int) % 256 from rfl] at this
        rw [this, hx]
        omega
      have HX := Lib.hid hx
      clear hx
      go_wp2_with (at_builtin; refine elU8.append _ (by rfl) _ _ rfl w.heap.size _ _ rfl (hO.fresh ((Below.refl _ _).alloc (Nat.le_refl _) _)) _ _ [x] rfl (Sl.single (heap_alloc_new _ _) rfl) ?_ ?_ ?_; (simp; omega); (have := hB.size; simp; omega); intro v' w4 hown' hgrow hat; have HO := Lib.hid hown'; clear hown')
      go_roundw
      case rel => exact ⟨k / 128, done ++ [x], Lib.hid (by rw [hp.out, putL_big h128, HX.out]; simp), by omega, by have := HP.out; rw [hp.out, putL_big h128] at this; simp at this ⊢; omega, rfl, HO.out, (hB.alloc hB.size _).grown hgrow (by have := hB.size; simp; omega) (fun q e => (hO.lt q e).1)⟩
      case measure => simp [intOf]; omega
end Go.Proofs.YthebmbhdlkldiaaGreatDoor

namespace Go.Proofs.YthebmbhdlkldiaaGreatDoor
open Go.RowKit Go.Bl
attribute [local go_sem ↓] Go.wp_at_zero Go.wp_at_succ

theorem ofInt64 (a : Nat) (ha : a < 9223372036854775808) : (BitVec.ofInt 64 (a : Int)).toNat = a := by
  rw [BitVec.ofInt_natCast, BitVec.toNat_ofNat]; exact Nat.mod_eq_of_lt (by omega)
theorem or64 (a b : Nat) (ha : a < 9223372036854775808) (hb : b < 9223372036854775808) : bits .or .i64 (a : Int) (b : Int) = ((a ||| b : Nat) : Int) := by
  have hx : a ||| b < 2 ^ 63 := Nat.or_lt_two_pow (by omega) (by omega)
  show IntKind.i64.wrap ((BitVec.ofInt 64 (a : Int) ||| BitVec.ofInt 64 (b : Int)).toNat : Int) = _
  rw [BitVec.toNat_or, ofInt64 a ha, ofInt64 b hb, IntKind.wrap_i64]
  omega
set_option maxRecDepth 8000 in
theorem and127 (a : Nat) (h : a < 256) : bits .and .u8 (a : Int) 127 = ((a % 128 : Nat) : Int) := by
  have := Go.u8_and_nat a 127 h (by decide)
  rw [show ((127 : Nat) : Int) = 127 from rfl] at this
  rw [this]
  have h2 : ∀ a < 256, a &&& 127 = a % 128 := by decide
  rw [h2 a h]
set_option maxRecDepth 8000 in
theorem and128 (a : Nat) (h : a < 256) : bits .and .u8 (a : Int) 128 = if 128 ≤ a then 128 else 0 := by
  have := Go.u8_and_nat a 128 h (by decide)
  rw [show ((128 : Nat) : Int) = 128 from rfl] at this
  rw [this]
  have h2 : ∀ a < 256, a &&& 128 = if 128 ≤ a then 128 else 0 := by decide
  rw [h2 a h]
  split <;> rfl
theorem pow128 (k : Nat) : 128 ^ k = 2 ^ (7 * k) := by rw [Nat.pow_mul]
theorem or_add (a x k : Nat) (ha : a < 128 ^ k) : a ||| x * 128 ^ k = a + x * 128 ^ k := by
  rw [pow128] at ha ⊢
  have := Nat.two_pow_add_eq_or_of_lt ha x
  rw [Nat.or_comm, Nat.mul_comm x, ← this, Nat.add_comm]
theorem pow_le6 {k : Nat} (h : k < 6) : 128 ^ k ≤ 34359738368 := by
  have : 128 ^ k ≤ 128 ^ 5 := Nat.pow_le_pow_right (by decide) (by omega)
  exact this
/-- A number taken off the front: the number, what is behind, the error. -/
def tkN (s : List UInt8) : Int × List UInt8 × Int := ((tkL 0 0 s).1, if (tkL 0 0 s).2.2 = 0 then s.drop (tkL 0 0 s).2.1 else [], (tkL 0 0 s).2.2)
set_option maxRecDepth 8000 in
set_option maxHeartbeats 2000000 in
theorem take_any (w : World) (s : ByteArray) (hs : s.size ≤ 1000000000000) : Calls Tryz.prog 91 #[.string s] w fun e w' => e = .returned (.tuple #[.int .i64 (tkN (Lb s)).1, .string (Bl (tkN (Lb s)).2.1), .int .i64 (tkN (Lb s)).2.2]) ∧ Below w.heap.size w w' := by
  obtain ⟨cap, w1, hconv, hcap, hsz, hk, hbytes, hfz⟩ := to_bytes (P := Tryz.prog) Tryz.underlying9 Tryz.underlying80 Tryz.underlying5 w s
  have hB1 : Below w.heap.size w w1 := hk.below (Nat.le_refl _) (fun _ h => h.elim)
  have HZ := Lib.hid hsz
  clear hsz hk
  go_enter Tryz.func91, Tryz.ntmps91
  go_wp2_with fail
  go_loopw [5, 11] (fun n i wr => ∃ (k a : Nat), k ≤ s.size ∧ k ≤ 6 ∧ a < 128 ^ k ∧ n = .int .i64 a ∧ i = .int .i64 k ∧ wr = w1 ∧ Hid (tkL 0 0 (Lb s) = tkL k a ((Lb s).drop k))) (fun _ i _ => s.size - (intOf i).toNat)
  case atStart => exact ⟨0, 0, Nat.zero_le _, by omega, by decide, rfl, rfl, rfl, Lib.hid rfl⟩
  case round =>
    obtain ⟨k, a, hks, hk6, ha, rfl, rfl, rfl, hT⟩ := hrel
    by_cases hlt : k < s.size
    · have d0 : decide ((k : Int) < (s.size : Int)) = true := by simp; omega
      obtain ⟨c, hc⟩ : ∃ c, c = ((Lb s)[k]'(by rw [Lb_len]; exact hlt)).toNat := ⟨_, rfl⟩
      have hcell : wr.cell? ⟨w.heap.size, k, none⟩ = some (.int .u8 c) := by
        have := hbytes k ((Lb s)[k]'(by rw [Lb_len]; exact hlt)) (by unfold Lb; simp)
        rw [Nat.zero_add] at this
        rw [this, hc]
      have hc256 : c < 256 := by rw [hc]; exact UInt8.toNat_lt _
      have HC := Lib.hid hc
      clear hc
      have hdrop : (Lb s).drop k = (Lb s)[k]'(by rw [Lb_len]; exact hlt) :: (Lb s).drop (k + 1) := List.drop_eq_getElem_cons (by rw [Lb_len]; exact hlt)
      by_cases h6 : k = 6
      · subst h6
        have hR : Hid (tkN (Lb s) = (0, [], 2)) := Lib.hid (by
          unfold tkN
          rw [hT.out, hdrop]
          unfold tkL
          rw [if_pos rfl]
          rfl)
        clear hdrop
        go_wp2_with fail
        go_ret3
        rw [hR.out]
        exact ⟨rfl, hB1⟩
      · have k6 : ((k : Int) == 6) = false := by rw [beq_eq_false_iff_ne]; omega
        have hp6 := pow_le6 (k := k) (by omega)
        obtain ⟨x, hx⟩ : ∃ x, x = c % 128 := ⟨_, rfl⟩
        have hx1 : x ≤ 127 := by omega
        have hm : x * 128 ^ k ≤ 127 * 128 ^ k := Nat.mul_le_mul_right _ hx1
        obtain ⟨y, hy⟩ : ∃ y, y = x * 128 ^ k := ⟨_, rfl⟩
        obtain ⟨z, hz⟩ : ∃ z, z = a + y := ⟨_, rfl⟩
        have hyb : y < 9000000000000 := by omega
        have hab : a < 9000000000000 := by omega
        have hzb2 : z < 9000000000000 := by omega
        have hzb : z < 128 ^ (k + 1) := by rw [Nat.pow_succ]; omega
        have hor : bits .or .i64 (a : Int) (y : Int) = (z : Int) := by rw [or64 a y (Nat.lt_trans hab (by decide)) (Nat.lt_trans hyb (by decide)), hy, or_add a x k ha, hz, hy]
        have hshl : wrap64 ((x : Int) * 2 ^ (7 * k)) = (y : Int) := by
          have e : (x : Int) * 2 ^ (7 * k) = (y : Int) := by rw [hy, pow128]; simp
          rw [e]
          clear e hor hm hp6 hy hz hzb ha
          unfold wrap64
          omega
        have h127 : bits .and .u8 (c : Int) 127 = (x : Int) := by rw [and127 c hc256, hx]
        have HZB := Lib.hid hzb
        have HTL : Hid (tkL 0 0 (Lb s) = if 128 ≤ c then tkL (k + 1) z ((Lb s).drop (k + 1)) else if c = 0 ∧ 0 < k then (0, k, 2) else if 1099511627776 < z then (0, k, 4) else (z, k + 1, 0)) := Lib.hid (by
          rw [hT.out, hdrop]
          conv => lhs; unfold tkL
          rw [if_neg h6, ← HC.out, ← hx, ← hy, ← hz])
        clear hdrop hT hm hp6 hx hy hz hzb ha
        have h128 := and128 c hc256
        by_cases hc1 : 128 ≤ c
        · rw [if_pos hc1] at h128
          go_wp2_with fail
          go_roundw
          case rel => exact ⟨k + 1, z, by omega, by omega, HZB.out, rfl, by go_num, trivial, Lib.hid (by rw [HTL.out, if_pos hc1])⟩
          case measure => simp [intOf]; omega
        · rw [if_neg hc1] at h128
          by_cases hc0 : c = 0 ∧ 0 < k
          · have e1 : ((c : Int) == 0) = true := by rw [beq_iff_eq]; omega
            have e2 : decide (0 < k) = true := by simp; omega
            have hR : Hid (tkN (Lb s) = (0, [], 2)) := Lib.hid (by unfold tkN; rw [HTL.out, if_neg hc1, if_pos hc0]; rfl)
            clear hc0
            go_wp2_with fail
            go_ret3
            rw [hR.out]
            exact ⟨rfl, hB1⟩
          · by_cases hbig : 1099511627776 < z
            · have hR : Hid (tkN (Lb s) = (0, [], 4)) := Lib.hid (by unfold tkN; rw [HTL.out, if_neg hc1, if_neg hc0, if_pos hbig]; rfl)
              by_cases hcz : c = 0
              · have e1 : ((c : Int) == 0) = true := by rw [beq_iff_eq]; omega
                have e2 : decide (0 < k) = false := by simp; omega
                have HCZ := Lib.hid hcz
                clear hcz
                go_wp2_with fail
                go_ret3
                rw [hR.out]
                exact ⟨rfl, hB1⟩
              · have e1 : ((c : Int) == 0) = false := by rw [beq_eq_false_iff_ne]; omega
                go_wp2_with fail
                go_ret3
                rw [hR.out]
                exact ⟨rfl, hB1⟩
            · have hR : Hid (tkN (Lb s) = ((z : Int), (Lb s).drop (k + 1), 0)) := Lib.hid (by unfold tkN; rw [HTL.out, if_neg hc1, if_neg hc0, if_neg hbig]; rfl)
              have he := ext_tail s (k + 1)
              by_cases hcz : c = 0
              · have e1 : ((c : Int) == 0) = true := by rw [beq_iff_eq]; omega
                have e2 : decide (0 < k) = false := by simp; omega
                have HCZ := Lib.hid hcz
                clear hcz
                go_wp2_with fail
                go_quiet (fail)
                go_wp2_with fail
                go_ret3
                rw [hR.out]
                exact ⟨rfl, hB1.trans ⟨rfl, rfl, rfl, Nat.le_refl _, fun _ _ => rfl⟩⟩
              · have e1 : ((c : Int) == 0) = false := by rw [beq_eq_false_iff_ne]; omega
                go_wp2_with fail
                go_quiet (fail)
                go_wp2_with fail
                go_ret3
                rw [hR.out]
                exact ⟨rfl, hB1.trans ⟨rfl, rfl, rfl, Nat.le_refl _, fun _ _ => rfl⟩⟩
    · have d0 : decide ((k : Int) < (s.size : Int)) = false := by simp; omega
      have hR : Hid (tkN (Lb s) = (0, [], 3)) := Lib.hid (by
        unfold tkN
        rw [hT.out, List.drop_of_length_le (by rw [Lb_len]; omega)]
        unfold tkL
        rfl)
      go_wp2_with fail
      go_ret3
      rw [hR.out]
      exact ⟨rfl, hB1⟩
end Go.Proofs.YthebmbhdlkldiaaGreatDoor
