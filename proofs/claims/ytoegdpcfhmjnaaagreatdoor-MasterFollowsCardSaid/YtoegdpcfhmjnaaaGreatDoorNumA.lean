/- Numbers as bytes: num.hold, num.Put. -/
import Derived.Test.YtoegdpcfhmjnaaaGreatDoorNumP
import Derived.Test.YtoegdpcfhmjnaaaGreatDoorProg
import Derived.Lib.Hide
import Derived.Laws.BitsAllLaws
import Derived.Test.YtoegdpcfhmjnaaaGreatDoorBlS
import Derived.Test.YtoegdpcfhmjnaaaGreatDoorBlL
import Derived.Test.YtoegdpcfhmjnaaaGreatDoorBlB
namespace Go.Proofs.YtoegdpcfhmjnaaaGreatDoor
open Go.RowKit Go.Bl
attribute [local go_sem ↓] Go.wp_at_zero Go.wp_at_succ

def u8c (x : Nat) : List Value := [.int .u8 x]
theorem u8c_one (x : Nat) (u : Value) (h : u ∈ u8c x) : u.oneCell' = true := by
  simp [u8c] at h; subst h; rfl
theorem infoU8N : (Tryz.prog.info? 5).map (fun i => (i.zero, i.size, i.bytes)) = some (some (.int .u8 0), 1, 1) := by kernel_rfl
theorem elU8 : El Tryz.prog 182 5 1 1 u8c := ⟨Tryz.underlying182, ⟨_, infoU8N, rfl⟩, by decide, by decide, fun _ => rfl, u8c_one⟩
def holdI (n a b : Int) : Int := gmax a (gmin n b)
theorem hold_any (w : World) (n a b : Int) : Calls Tryz.prog 86 #[.int .i64 n, .int .i64 a, .int .i64 b] w fun e w' => e = .returned (.int .i64 (holdI n a b)) ∧ w = w' := by
  have hmx := @run_gmax Tryz.prog
  have hmn := @run_gmin Tryz.prog
  go_enter Tryz.func86, Tryz.ntmps86
  go_wp2_with fail
  go_ret
  exact ⟨rfl, rfl⟩
theorem bytesOf_lt {l : List Nat} (h : ∀ x ∈ l, x < 256) (i : Nat) (x : Nat) (hx : l[i]? = some x) : (bytesOf l)[i]? = some (UInt8.ofNat x) ∧ (UInt8.ofNat x).toNat = x := by
  have hm := List.mem_of_getElem? hx
  have := h x hm
  unfold bytesOf
  rw [List.getElem?_map, hx]
  exact ⟨rfl, by simp; omega⟩
/-- A slice of bytes, as a text. -/
theorem Sl.str {w : World} {F : Nat → Prop} {v : Value} {l : List Nat} (h : Sl w F 1 u8c v l) (h0 : 0 < l.length) (hl : ∀ x ∈ l, x < 256) : (convert 182 9 v).run Tryz.prog w = .ok (.string (Bl (bytesOf l))) w := by
  obtain ⟨A, c, rfl, h2, h3, h4⟩ := h
  obtain ⟨b, o, rfl, _, _, hc⟩ := h4 h0
  refine from_bytes Tryz.underlying182 Tryz.underlying5 Tryz.underlying9 w b o c l.length _ (by rw [Bl_size]; unfold bytesOf; simp) (fun j u hu => ?_)
  have hj : j < l.length := by
    have := (Array.getElem?_eq_some_iff.1 hu).1
    unfold Bl bytesOf at this
    simpa using this
  have h1 := bytesOf_lt hl j l[j] (List.getElem?_eq_getElem hj)
  have h5 : (bytesOf l)[j]? = some u := by
    have : (Bl (bytesOf l)).data[j]? = (bytesOf l)[j]? := by unfold Bl; simp
    rw [← this]; exact hu
  rw [h1.1] at h5
  obtain rfl := Option.some.inj h5
  have := hc j hj 0 (.int .u8 l[j]) rfl
  rw [h1.2]
  simpa using this
set_option maxRecDepth 8000 in
theorem or128 (a : Nat) (h : a < 256) : bits .or .u8 (a : Int) 128 = ((a % 128 + 128 : Nat) : Int) := by
  have := Go.u8_or_nat a 128 h (by decide)
  rw [show ((128 : Nat) : Int) = 128 from rfl] at this
  rw [this]
  have h2 : ∀ a < 256, a ||| 128 = a % 128 + 128 := by decide
  rw [h2 a h]
def putB (n : Nat) : ByteArray := Bl (bytesOf (putL n))
set_option maxRecDepth 8000 in
set_option maxHeartbeats 2000000 in
theorem put_any (w : World) (n : Int) (N : Nat) (hN : holdI n 0 1099511627776 = (N : Int)) : Calls Tryz.prog 71 #[.int .i64 n] w fun e w' => e = .returned (.string (putB N)) ∧ Below w.heap.size w w' := by
  have hNb : N ≤ 1099511627776 := by unfold holdI gmax gmin at hN; omega
  have hh := hold_any w n 0 1099511627776
  rw [hN] at hh
  have HH := Lib.hid hh
  have HP := Lib.hid (putL_len 5 N (by omega))
  clear hh hN
  go_enter Tryz.func71, Tryz.ntmps71
  go_wp2_with fail
  refine HH.out.mono ?_
  rintro e w1 ⟨rfl, rfl⟩
  go_wp2_with fail
  go_loopw [0, 3] (fun n v wr => ∃ (k : Nat) (done : List Nat), Hid (putL N = done ++ putL k) ∧ k ≤ 1099511627776 ∧ done.length ≤ 6 ∧ n = .int .i64 k ∧ Own wr w.heap.size 5 1 u8c v done ∧ Below w.heap.size w wr) (fun n _ _ => (intOf n).toNat)
  case atStart => exact ⟨N, [], Lib.hid rfl, hNb, Nat.zero_le _, rfl, Own.nil_ _ _ _ _ _, Below.refl _ _⟩
  case round =>
    obtain ⟨k, done, hp, hkb, hdl, rfl, hO, hB⟩ := hrel
    by_cases h128 : k < 128
    · have d1 : decide ((128 : Int) ≤ (k : Int)) = false := by simp; omega
      have hpk : Hid (putL N = done ++ [k]) := Lib.hid (by rw [hp.out, putL_small h128])
      go_wp2_with (at_builtin; refine elU8.append _ (by rfl) _ _ rfl w.heap.size _ _ rfl (hO.fresh ((Below.refl _ _).alloc (Nat.le_refl _) _)) _ _ [k] rfl (Sl.single (heap_alloc_new _ _) rfl) ?_ ?_ ?_; (simp; omega); (have := hB.size; simp; omega); intro v' w4 hown' hgrow hat; have HO := Lib.hid hown'; clear hown'; go_loud (have hstr := Sl.str (HO.out.sl elU8.len) (by simp) (fun x hx => putL_lt (N + 1) N (by omega) x (by rw [hpk.out]; exact hx))))
      go_ret
      rw [← hpk.out] at *
      exact ⟨rfl, (hB.alloc hB.size _).grown hgrow (by have := hB.size; simp; omega) (fun q e => (hO.lt q e).1)⟩
    · have d1 : decide ((128 : Int) ≤ (k : Int)) = true := by simp; omega
      obtain ⟨x, hx⟩ : ∃ x, x = k % 128 + 128 := ⟨_, rfl⟩
      have hor : bits .or .u8 ((k : Int) % 256) 128 = (x : Int) := by
        have := or128 (k % 256) (by omega)
        rw [show ((k % 256 : Nat) : Int) = (k : Int) % 256 from rfl] at this
        rw [this, hx]
        omega
      have HX := Lib.hid hx
      clear hx
      go_wp2_with (at_builtin; refine elU8.append _ (by rfl) _ _ rfl w.heap.size _ _ rfl (hO.fresh ((Below.refl _ _).alloc (Nat.le_refl _) _)) _ _ [x] rfl (Sl.single (heap_alloc_new _ _) rfl) ?_ ?_ ?_; (simp; omega); (have := hB.size; simp; omega); intro v' w4 hown' hgrow hat; have HO := Lib.hid hown'; clear hown')
      go_roundw
      case rel => exact ⟨k / 128, done ++ [x], Lib.hid (by rw [hp.out, putL_big h128, HX.out]; simp), by omega, by have := HP.out; rw [hp.out, putL_big h128] at this; simp at this ⊢; omega, rfl, HO.out, (hB.alloc hB.size _).grown hgrow (by have := hB.size; simp; omega) (fun q e => (hO.lt q e).1)⟩
      case measure => simp [intOf]; omega
end Go.Proofs.YtoegdpcfhmjnaaaGreatDoor
