/- The disk that keeps away from blocks X; the statements' own helpers: pick, shown. -/
import Derived.Test.YtoegdpcfhmjnaaaGreatDoorDskG
import Derived.Test.YtoegdpcfhmjnaaaGreatDoorBlU
import Derived.Test.YtoegdpcfhmjnaaaGreatDoorBlL
namespace Go.Proofs.YtoegdpcfhmjnaaaGreatDoor
open Go.RowKit Go.Bl
attribute [local go_sem ↓] Go.wp_at_zero Go.wp_at_succ

/-- A disk that lies in no block of X. -/
def Dsk (X : Nat → Prop) (w : World) (p : Nat) (d : Dk) : Prop := ∃ F, DskAt w p d F ∧ ∀ k, F k → ¬ X k
section
variable {X X' : Nat → Prop} {B : Nat} {w w' : World} {p : Nat} {d : Dk}
theorem Dsk.fresh (h : Dsk X w p d) (hk : Below w.heap.size w w') : Dsk X w' p d := by
  obtain ⟨F, h, hX⟩ := h
  exact ⟨F, h.fresh hk, hX⟩
theorem Dsk.keep (h : Dsk X w p d) (hk : Keeps X w w') : Dsk X w' p d := by
  obtain ⟨F, h, hX⟩ := h
  exact ⟨F, h.keep hk hX, hX⟩
theorem Dsk.drewN (h : Dsk X w p d) (n : Nat) : Dsk X (w.drewN n) p d := h.fresh ⟨rfl, rfl, rfl, Nat.le_refl _, fun _ _ => rfl⟩
theorem Dsk.ok (h : Dsk X w p d) : d.Ok := by obtain ⟨F, h, hX⟩ := h; exact h.ok
theorem Dsk.nodup (h : Dsk X w p d) : (d.L.map Fl.name).Nodup := by obtain ⟨F, ⟨bm, R, h⟩, hX⟩ := h; exact h.nodup
theorem Dsk.more (h : Dsk X w p d) (hm : ∀ k, X' k → X k ∨ w.heap.size ≤ k) : Dsk X' w p d := by
  obtain ⟨F, h, hX⟩ := h
  exact ⟨F, h, fun k hF hx => by rcases hm k hx with e | e; exact hX k hF e; have := h.lt k hF; omega⟩
theorem Dsk.plt (h : Dsk X w p d) : p < w.heap.size := by obtain ⟨F, h, hX⟩ := h; exact h.lt p h.fp
theorem Dsk.grow {d' : Dk} {F : Nat → Prop} (hF : ∀ k, F k → ¬ X k) (hX : ∀ k, X k → k < w.heap.size) (h' : DskAt w' p d' (fun k => F k ∨ (w.heap.size ≤ k ∧ k < w'.heap.size))) : Dsk X w' p d' :=
  ⟨_, h', fun k hk hx => by rcases hk with hk | hk; exact hF k hk hx; have := hX k hx; omega⟩
end
theorem sync_no_d {d : Dk} {x : ByteArray} (h : d.find x = none) : d.sync x = d := by
  unfold Dk.sync
  rw [updL_not (find_none.1 h)]
theorem keeps_notD {X F : Nat → Prop} {w w' : World} (hF : ∀ k, F k → ¬ X k) (h : Keeps F w w') : Keeps (fun k => ¬ X k) w w' := h.mono fun k _ hk => hF k hk

section
variable (w : World) (X : Nat → Prop) (hX : ∀ k, X k → k < w.heap.size)
include hX
theorem newD (room : Int) (h1 : 1 ≤ room) (h2 : room ≤ 1073741824) : Calls Tryz.prog 26 #[.int .i64 room] w fun e w' => ∃ p, e = .returned (.tuple #[.pointer (some ⟨p, 0, none⟩), .int .i64 0]) ∧
    Dsk X w' p ⟨room, []⟩ ∧ Below w.heap.size w w' :=
  (new_ok w room h1 h2).mono fun _ _ ⟨he, hN, hb⟩ => ⟨_, he, ⟨_, hN, fun k hk hx => by have := hX k hx; omega⟩, hb⟩
theorem appendD (hT : Tabs w) (p : Nat) (d : Dk) (h : Dsk X w p d) (x s : ByteArray) (hx : x.size ≤ 1000000) (hs : s.size ≤ 1000000000000000) :
    Calls Tryz.prog 55 #[.pointer (some ⟨p, 0, none⟩), .string x, .string s] w fun e w' => e = .returned (.int .i64 (d.app x s).1) ∧ Dsk X w' p (d.app x s).2 ∧ Keeps (fun k => ¬ X k) w w' := by
  obtain ⟨F, h, hF⟩ := h
  exact (append_any w p d F h hT x s hx hs).mono fun _ _ ⟨he, hk, hN⟩ => ⟨he, Dsk.grow hF hX hN, keeps_notD hF hk⟩
theorem renameD (hT : Tabs w) (p : Nat) (d : Dk) (h : Dsk X w p d) (x y : ByteArray) (hx : x.size ≤ 1000000) (hy : y.size ≤ 1000000) :
    Calls Tryz.prog 58 #[.pointer (some ⟨p, 0, none⟩), .string x, .string y] w fun e w' => e = .returned (.int .i64 (d.ren x y).1) ∧ Dsk X w' p (d.ren x y).2 ∧ Keeps (fun k => ¬ X k) w w' := by
  obtain ⟨F, h, hF⟩ := h
  exact (rename_any w p d F h hT x y hx hy).mono fun _ _ ⟨he, hk, hN⟩ => ⟨he, Dsk.grow hF hX hN, keeps_notD hF hk⟩
omit hX in
theorem deleteD (p : Nat) (d : Dk) (h : Dsk X w p d) (x : ByteArray) (hx : x.size ≤ maxLen) :
    Calls Tryz.prog 57 #[.pointer (some ⟨p, 0, none⟩), .string x] w fun e w' => e = .returned (.int .i64 (if d.find x = none then 6 else 0)) ∧ Dsk X w' p (d.del x) ∧ Keeps (fun k => ¬ X k) w w' := by
  obtain ⟨F, ⟨bm, R, h⟩, hF⟩ := h
  exact (delete_any w p d F bm R h x hx).mono fun _ _ ⟨he, hk, hN⟩ => ⟨he, ⟨F, ⟨bm, _, hN⟩, hF⟩, hk.mono fun k _ e => by rcases e with rfl | rfl; exact hF _ h.fp; exact hF _ h.fm⟩
omit hX in
theorem syncD (p : Nat) (d : Dk) (h : Dsk X w p d) (x : ByteArray) (hx : x.size ≤ maxLen) :
    Calls Tryz.prog 56 #[.pointer (some ⟨p, 0, none⟩), .string x] w fun e w' => e = .returned (.int .i64 (if d.find x = none then 6 else 0)) ∧ Dsk X w' p (d.sync x) ∧ Keeps (fun k => ¬ X k) w w' := by
  obtain ⟨F, h, hF⟩ := h
  cases hf : d.find x with
  | none =>
    refine (sync_no w p d F h x hx hf).mono ?_
    rintro e w' ⟨rfl, rfl⟩
    rw [sync_no_d hf]
    exact ⟨rfl, ⟨F, h, hF⟩, Keeps.refl _ _⟩
  | some f =>
    obtain ⟨hfL, rfl⟩ := find_some hf
    exact (sync_yes w p d F h f hfL hx).mono fun _ _ ⟨he, hk, hN⟩ => ⟨he, ⟨F, hN, hF⟩, keeps_notD hF hk⟩
omit hX in
theorem crashD (p : Nat) (d : Dk) (h : Dsk X w p d) (kv : Value) (keep : List Int) (hk : Sl w X 1 intc kv keep) :
    Calls Tryz.prog 19 #[.pointer (some ⟨p, 0, none⟩), kv] w fun e w' => e = .returned (.tuple #[]) ∧ ∃ ks, Names d.L ks ∧ Dsk X w' p ⟨d.room, crashN keep ks d.L ks.length⟩ ∧ Keeps (fun k => ¬ X k) w w' := by
  obtain ⟨F, h, hF⟩ := h
  exact (crash_any w p d F X h kv keep hk (fun k hx hf => hF k hf hx)).mono fun _ _ ⟨he, hk, ks, hN, hD⟩ => ⟨he, ks, hN, ⟨F, hD, hF⟩, keeps_notD hF hk⟩
omit hX in
theorem readD (p : Nat) (d : Dk) (h : Dsk X w p d) (x : ByteArray) (hx : x.size ≤ maxLen) : Calls Tryz.prog 29 #[.pointer (some ⟨p, 0, none⟩), .string x] w fun e w' => e = .returned (readV (d.find x)) ∧ w = w' := by
  obtain ⟨F, h, hF⟩ := h
  exact read_any w p d F h x hx
omit hX in
theorem listD (p : Nat) (d : Dk) (h : Dsk X w p d) : Calls Tryz.prog 45 #[.pointer (some ⟨p, 0, none⟩)] w fun e w' => ∃ v ks, e = .returned v ∧ Names d.L ks ∧ Below w.heap.size w w' ∧ Sl w' (fun b => w.heap.size ≤ b) 1 strc v ks := by
  obtain ⟨F, h, hF⟩ := h
  exact list_any w p d F h
end

def i64 (n : Int) : Prop := -9223372036854775808 ≤ n ∧ n ≤ 9223372036854775807
def pickOf (c n : Int) : Int := (if c < 0 then -(c + 1) else c) % n
theorem pick_any (w : World) (c n : Int) (hc : i64 c) (hn : 1 ≤ n ∧ n ≤ 1000000000) : Calls Tryz.prog 17 #[.int .i64 c, .int .i64 n] w fun e w' => e = .returned (.int .i64 (pickOf c n)) ∧ w = w' := by
  obtain ⟨c1, c2⟩ := hc
  obtain ⟨n1, n2⟩ := hn
  unfold pickOf
  by_cases h : c < 0
  · have d1 : decide (c < 0) = true := by simpa using h
    rw [if_pos h]
    have hb1 : 0 ≤ -(c + 1) := by omega
    have hv : -((c + 1).tmod n) = -(c + 1) % n := by rw [← Int.neg_tmod, Int.tmod_eq_emod_of_nonneg hb1]
    rw [← hv]
    clear hv
    go_enter Tryz.func17, Tryz.ntmps17
    go_wp2_with fail
    go_ret
    exact ⟨rfl, rfl⟩
  · have d1 : decide (c < 0) = false := by simpa using h
    rw [if_neg h]
    have hb1 : 0 ≤ c := by omega
    go_enter Tryz.func17, Tryz.ntmps17
    go_wp2_with fail
    go_ret
    exact ⟨rfl, rfl⟩
theorem pickOf_range (c : Int) {n : Int} (hn : 1 ≤ n) : 0 ≤ pickOf c n ∧ pickOf c n < n := by
  unfold pickOf
  exact ⟨Int.emod_nonneg _ (by omega), Int.emod_lt_of_pos _ (by omega)⟩

theorem Names.uniq {L : List Fl} {ks ks' : List ByteArray} (h : Names L ks) (h' : Names L ks') : ks = ks' := rising_extB h.1 h'.1 (fun s => by rw [h.2, h'.2])
theorem names_one (f : Fl) : Names [f] [f.name] := ⟨List.pairwise_singleton _ _, fun s => by simp [eq_comm]⟩

def sA : ByteArray := ⟨#[97]⟩
def sXY : ByteArray := ⟨#[120, 121]⟩
def sXYZ : ByteArray := ⟨#[120, 121, 122]⟩
theorem ex1 : (⟨100, []⟩ : Dk).app sA sXY = (0, ⟨100, [⟨sA, sXY, 0⟩]⟩) := by kernel_rfl
theorem ex2 : (⟨100, [⟨sA, sXY, 0⟩]⟩ : Dk).sync sA = ⟨100, [⟨sA, sXY, 2⟩]⟩ := by kernel_rfl
theorem ex3 : (⟨100, [⟨sA, sXY, 2⟩]⟩ : Dk).app sA ⟨#[122]⟩ = (0, ⟨100, [⟨sA, sXYZ, 2⟩]⟩) := by kernel_rfl
theorem ex4 : crashN [] [sA] [⟨sA, sXYZ, 2⟩] 1 = [⟨sA, sXY, 2⟩] := by kernel_rfl
theorem ex5 : crashN [5] [sA] [⟨sA, sXYZ, 2⟩] 1 = [⟨sA, sXYZ, 3⟩] := by kernel_rfl
theorem ex6 : readV ((⟨100, [⟨sA, sXY, 2⟩]⟩ : Dk).find sA) = .tuple #[.string sXY, .int .i64 0] := by kernel_rfl
theorem ex7 : readV ((⟨100, [⟨sA, sXYZ, 3⟩]⟩ : Dk).find sA) = .tuple #[.string sXYZ, .int .i64 0] := by kernel_rfl
end Go.Proofs.YtoegdpcfhmjnaaaGreatDoor
