/- The manifest: its disk beside a fixed past; write. Under the stated premises on sizes. -/
import Derived.Test.YthdehdlbocgfaaaDoorDskH
namespace Go.Proofs.YthdehdlbocgfaaaDoor
open Go.RowKit Go.Bl
attribute [local go_sem ↓] Go.wp_at_zero Go.wp_at_succ

/-- A disk d at p that keeps away from the blocks X (the tables are among them). -/
structure Qd (X : Nat → Prop) (w : World) (p : Nat) (d : Dk) : Prop where
  tabs : Tabs w
  low : ∀ k, k < 2 → X k
  hX : ∀ k, X k → k < w.heap.size
  disk : Dsk X w p d
/-- Only what is not X has turned. -/
abbrev Kx (X : Nat → Prop) (w w' : World) : Prop := Keeps (fun k => ¬ X k) w w'
theorem Kx.below {X : Nat → Prop} {w w' : World} {B : Nat} (h : Kx X w w') (hX : ∀ k, k < B → X k) (hB : B ≤ w.heap.size) : Below B w w' := below_notB h hB hX
theorem Kx.of_below {X : Nat → Prop} {w w' : World} (h : Below w.heap.size w w') : Kx X w w' := Keeps.of_fresh h _
section
variable {X : Nat → Prop} {w w' : World} {p : Nat} {d : Dk}
theorem Qd.step (h : Qd X w p d) {d' : Dk} (hD : Dsk X w' p d') (hk : Kx X w w') : Qd X w' p d' :=
  ⟨h.tabs.keep hk (fun k hk => by have := h.low k; exact Decidable.byContradiction fun hc => hk (this (by omega))) h.tabs.lt, h.low, fun k hk2 => Nat.lt_of_lt_of_le (h.hX k hk2) hk.size, hD⟩
theorem Qd.fresh (h : Qd X w p d) (hB : Below w.heap.size w w') : Qd X w' p d := h.step (h.disk.fresh hB) (Kx.of_below hB)
/-- Blocks of X may be written by others. -/
theorem Qd.keep (h : Qd X w p d) (hk : Keeps X w w') (ht : Tabs w') : Qd X w' p d := ⟨ht, h.low, fun k hk2 => Nat.lt_of_lt_of_le (h.hX k hk2) hk.size, h.disk.keep hk⟩
/-- What is new may join X. -/
theorem Qd.more {X' : Nat → Prop} (h : Qd X w p d) (hB : Below w.heap.size w w') (hm : ∀ k, X' k → X k ∨ w.heap.size ≤ k) (hl : ∀ k, X' k → k < w'.heap.size) (hw : ∀ k, k < 2 → X' k) : Qd X' w' p d :=
  ⟨h.tabs.fresh hB, hw, hl, (h.disk.more hm).fresh hB⟩
theorem Qd.ok (h : Qd X w p d) : d.Ok := h.disk.ok
theorem Qd.nodup (h : Qd X w p d) : (d.L.map Fl.name).Nodup := h.disk.nodup
theorem appendQ (h : Qd X w p d) (x s : ByteArray) (hx : x.size ≤ 1000000) (hs : s.size ≤ 1000000000000000) :
    Calls Tryd.prog 14 #[.pointer (some ⟨p, 0, none⟩), .string x, .string s] w fun e w' => e = .returned (.int .i64 (d.app x s).1) ∧ Qd X w' p (d.app x s).2 ∧ Kx X w w' :=
  (appendD w _ h.hX h.tabs p d h.disk x s hx hs).mono fun _ _ ⟨he, hD, hk⟩ => ⟨he, h.step hD hk, hk⟩
theorem renameQ (h : Qd X w p d) (x y : ByteArray) (hx : x.size ≤ 1000000) (hy : y.size ≤ 1000000) :
    Calls Tryd.prog 40 #[.pointer (some ⟨p, 0, none⟩), .string x, .string y] w fun e w' => e = .returned (.int .i64 (d.ren x y).1) ∧ Qd X w' p (d.ren x y).2 ∧ Kx X w w' :=
  (renameD w _ h.hX h.tabs p d h.disk x y hx hy).mono fun _ _ ⟨he, hD, hk⟩ => ⟨he, h.step hD hk, hk⟩
theorem deleteQ (h : Qd X w p d) (x : ByteArray) (hx : x.size ≤ maxLen) :
    Calls Tryd.prog 39 #[.pointer (some ⟨p, 0, none⟩), .string x] w fun e w' => e = .returned (.int .i64 (if d.find x = none then 6 else 0)) ∧ Qd X w' p (d.del x) ∧ Kx X w w' :=
  (deleteD w _ p d h.disk x hx).mono fun _ _ ⟨he, hD, hk⟩ => ⟨he, h.step hD hk, hk⟩
theorem syncQ (h : Qd X w p d) (x : ByteArray) (hx : x.size ≤ maxLen) :
    Calls Tryd.prog 21 #[.pointer (some ⟨p, 0, none⟩), .string x] w fun e w' => e = .returned (.int .i64 (if d.find x = none then 6 else 0)) ∧ Qd X w' p (d.sync x) ∧ Kx X w w' :=
  (syncD w _ p d h.disk x hx).mono fun _ _ ⟨he, hD, hk⟩ => ⟨he, h.step hD hk, hk⟩
theorem crashQ (h : Qd X w p d) (kv : Value) (keep : List Int) (hk : Sl w X 1 intc kv keep) :
    Calls Tryd.prog 9 #[.pointer (some ⟨p, 0, none⟩), kv] w fun e w' => e = .returned (.tuple #[]) ∧ ∃ ks, Names d.L ks ∧ Qd X w' p ⟨d.room, crashN keep ks d.L ks.length⟩ ∧ Kx X w w' :=
  (crashD w _ p d h.disk kv keep hk).mono fun _ _ ⟨he, ks, hN, hD, hk⟩ => ⟨he, ks, hN, h.step hD hk, hk⟩
theorem readQ (h : Qd X w p d) (x : ByteArray) (hx : x.size ≤ maxLen) : Calls Tryd.prog 30 #[.pointer (some ⟨p, 0, none⟩), .string x] w fun e w' => e = .returned (readV (d.find x)) ∧ w = w' := readD w _ p d h.disk x hx
theorem usedQ (h : Qd X w p d) : Calls Tryd.prog 11 #[.pointer (some ⟨p, 0, none⟩)] w fun e w' => e = .returned (.int .i64 d.used) ∧ w = w' := usedD w _ p d h.disk
end

def sTemp : ByteArray := ⟨#[116, 101, 109, 112]⟩
def sMark : ByteArray := ⟨#[101, 112, 111, 99, 104]⟩
def sFile : ByteArray := ⟨#[109, 97, 110, 105, 102, 101, 115, 116]⟩
/-- A file written as a whole: the error and the disk. -/
def Dk.wr (d : Dk) (x s : ByteArray) : Int × Dk :=
  if ((d.del sTemp).app sTemp s).1 = 0 then ((((d.del sTemp).app sTemp s).2).sync sTemp).ren sTemp x
  else (((d.del sTemp).app sTemp s).1, (((d.del sTemp).app sTemp s).2).del sTemp)
set_option maxRecDepth 8000 in
set_option maxHeartbeats 1000000 in
theorem writeQ {X : Nat → Prop} {w : World} {p : Nat} {d : Dk} (h : Qd X w p d) (x s : ByteArray) (hx : x.size ≤ 1000000) (hs : s.size ≤ 1000000000000000) :
    Calls Tryd.prog 24 #[.pointer (some ⟨p, 0, none⟩), .string x, .string s] w fun e w' => e = .returned (.int .i64 (d.wr x s).1) ∧ Qd X w' p (d.wr x s).2 ∧ Kx X w w' := by
  have H := Lib.hid h
  clear h
  have Hx := Lib.hid hx
  have Hs := Lib.hid hs
  clear hx hs
  go_enter Tryd.func24, Tryd.ntmps24
  go_wp2_with fail
  refine (deleteQ H.out ⟨#[116, 101, 109, 112]⟩ (by decide)).mono ?_
  rintro e w1 ⟨rfl, h1, k1⟩
  have K1 := Lib.hid k1
  clear k1
  have H1 := Lib.hid h1
  obtain ⟨ev, hev⟩ : ∃ ev : Int, (if d.find ⟨#[116, 101, 109, 112]⟩ = none then (6 : Int) else 0) = ev := ⟨_, rfl⟩
  rw [hev]
  clear h1 hev
  go_wp2_with fail
  refine (appendQ H1.out ⟨#[116, 101, 109, 112]⟩ s (by decide) Hs.out).mono ?_
  rintro e w2 ⟨rfl, h2, k2⟩
  have K2 := Lib.hid (K1.out.trans k2)
  clear k2
  obtain ⟨er, her⟩ : ∃ ev : Int, ((d.del ⟨#[116, 101, 109, 112]⟩).app ⟨#[116, 101, 109, 112]⟩ s).1 = ev := ⟨_, rfl⟩
  obtain ⟨d2, hd2⟩ : ∃ ev : Dk, ((d.del ⟨#[116, 101, 109, 112]⟩).app ⟨#[116, 101, 109, 112]⟩ s).2 = ev := ⟨_, rfl⟩
  rw [hd2] at h2
  rw [her]
  have H2 := Lib.hid h2
  have HW : Hid (d.wr x s = if er = 0 then (d2.sync sTemp).ren sTemp x else (er, d2.del sTemp)) := Lib.hid (by unfold Dk.wr; rw [← her, ← hd2]; rfl)
  clear h2 her hd2
  by_cases e0 : er = 0
  · have HW0 : Hid (d.wr x s = (d2.sync sTemp).ren sTemp x) := Lib.hid (by rw [HW.out, if_pos e0])
    clear HW
    subst e0
    go_wp2_with fail
    refine (syncQ H2.out ⟨#[116, 101, 109, 112]⟩ (by decide)).mono ?_
    rintro e w3 ⟨rfl, h3, k3⟩
    have K3 := Lib.hid (K2.out.trans k3)
    clear k3
    have H3 := Lib.hid h3
    obtain ⟨ev, hev⟩ : ∃ ev : Int, (if d2.find ⟨#[116, 101, 109, 112]⟩ = none then (6 : Int) else 0) = ev := ⟨_, rfl⟩
    rw [hev]
    clear h3 hev
    go_wp2_with fail
    refine (renameQ H3.out ⟨#[116, 101, 109, 112]⟩ x (by decide) Hx.out).mono ?_
    rintro e w4 ⟨rfl, h4, k4⟩
    have K4 := Lib.hid (K3.out.trans k4)
    clear k4
    have H4 := Lib.hid h4
    clear h4
    obtain ⟨er, her⟩ : ∃ ev : Int, ((d2.sync ⟨#[116, 101, 109, 112]⟩).ren ⟨#[116, 101, 109, 112]⟩ x).1 = ev := ⟨_, rfl⟩
    rw [her]
    have HR := Lib.hid her
    clear her
    go_wp2_with fail
    go_ret
    rw [HW0.out, ← HR.out]
    exact ⟨rfl, H4.out, K4.out⟩
  · have en : (er != 0) = true := by simpa using e0
    go_wp2_with fail
    refine (deleteQ H2.out ⟨#[116, 101, 109, 112]⟩ (by decide)).mono ?_
    rintro e w3 ⟨rfl, h3, k3⟩
    have K3 := Lib.hid (K2.out.trans k3)
    clear k3
    have H3 := Lib.hid h3
    obtain ⟨ev, hev⟩ : ∃ ev : Int, (if d2.find ⟨#[116, 101, 109, 112]⟩ = none then (6 : Int) else 0) = ev := ⟨_, rfl⟩
    rw [hev]
    clear h3 hev
    go_wp2_with fail
    go_ret
    rw [HW.out, if_neg e0]
    exact ⟨rfl, H3.out, K3.out⟩
end Go.Proofs.YthdehdlbocgfaaaDoor
