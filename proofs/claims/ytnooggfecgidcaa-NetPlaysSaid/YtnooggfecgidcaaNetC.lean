/- The net that lies wholly behind a place of the heap; the statements' own helpers: pick, small, shown. -/
import Derived.Test.YtnooggfecgidcaaNetB
import Derived.Test.YtnooggfecgidcaaBlB
namespace Go.Proofs.Ytnooggfecgidcaa
open Go.RowKit Go.Bl

/-- A net that lies in no block of X. -/
def NetP (X : Nat → Prop) (w : World) (p : Nat) (s : Nt) : Prop := ∃ F, NetAt w p s F ∧ ∀ k, F k → ¬ X k
section
variable {X X' : Nat → Prop} {B : Nat} {w w' : World} {p : Nat} {s : Nt}
theorem NetP.fresh (h : NetP X w p s) (hk : Below w.heap.size w w') : NetP X w' p s := by
  obtain ⟨F, h, hX⟩ := h
  exact ⟨F, h.fresh hk, hX⟩
theorem NetP.keep (h : NetP X w p s) (hk : Keeps X w w') : NetP X w' p s := by
  obtain ⟨F, h, hX⟩ := h
  exact ⟨F, h.keep hk hX, hX⟩
theorem NetP.drewN (h : NetP X w p s) (n : Nat) : NetP X (w.drewN n) p s := by
  obtain ⟨F, h, hX⟩ := h
  exact ⟨F, h.drewN n, hX⟩
theorem NetP.ok (h : NetP X w p s) : s.Ok := by obtain ⟨F, h, hX⟩ := h; exact h.ok
theorem NetP.more (h : NetP X w p s) (hm : ∀ k, X' k → X k ∨ w.heap.size ≤ k) : NetP X' w p s := by
  obtain ⟨F, h, hX⟩ := h
  exact ⟨F, h, fun k hF hx => by rcases hm k hx with e | e; exact hX k hF e; have := h.lt k hF; omega⟩
theorem NetP.plt (h : NetP X w p s) : p < w.heap.size := by obtain ⟨F, h, hX⟩ := h; exact h.lt p h.fp
theorem NetP.grow {s' : Nt} {F : Nat → Prop} (hF : ∀ k, F k → ¬ X k) (hX : ∀ k, X k → k < w.heap.size) (h' : NetAt w' p s' (fun k => F k ∨ (w.heap.size ≤ k ∧ k < w'.heap.size))) : NetP X w' p s' :=
  ⟨_, h', fun k hk hx => by rcases hk with hk | hk; exact hF k hk hx; have := hX k hx; omega⟩
end
theorem keeps_not {X F : Nat → Prop} {w w' : World} (hF : ∀ k, F k → ¬ X k) (h : Keeps F w w') : Keeps (fun k => ¬ X k) w w' := h.mono fun k _ hk => hF k hk
theorem below_not {X : Nat → Prop} {w w' : World} {B : Nat} (h : Keeps (fun k => ¬ X k) w w') (hB : B ≤ w.heap.size) (hX : ∀ k, k < B → X k) : Below B w w' :=
  h.below hB fun k hk => Decidable.byContradiction fun hc => hk (hX k (by omega))
theorem keeps_fresh {w w' : World} (h : Below w.heap.size w w') (G : Nat → Prop) : Keeps G w w' := Keeps.of_fresh h G

section
variable (w : World) (X : Nat → Prop) (hX : ∀ k, X k → k < w.heap.size)
include hX
theorem newP (room : Int) (h1 : 1 ≤ room) (h2 : room ≤ 1048576) : Calls Try.prog 8 #[.int .i64 room] w fun e w' => ∃ p, e = .returned (.tuple #[.pointer (some ⟨p, 0, none⟩), .int .i64 0]) ∧
    NetP X w' p ⟨room, 0, 0, []⟩ ∧ Below w.heap.size w w' :=
  (new_ok w room h1 h2).mono fun _ _ ⟨he, hN, hb⟩ => ⟨_, he, ⟨_, hN, fun k hk hx => by have := hX k hx; omega⟩, hb⟩
theorem sendP (p : Nat) (s : Nt) (h : NetP X w p s) (f t : Int) (x : ByteArray) (hx : x.size ≤ maxLen) (hb1 : s.last ≤ 1000000000000) (hb2 : s.lost ≤ 1000000000000) :
    Calls Try.prog 9 #[.pointer (some ⟨p, 0, none⟩), .int .i64 f, .int .i64 t, .string x] w fun e w' => e = .returned (.tuple #[.int .i64 (s.send f t x).2.1, .int .i64 (s.send f t x).2.2]) ∧ NetP X w' p (s.send f t x).1 ∧ Keeps (fun k => ¬ X k) w w' := by
  obtain ⟨F, h, hF⟩ := h
  exact (send_any w p s F h f t x hx hb1 hb2).mono fun _ _ ⟨he, hk, hN⟩ => ⟨he, NetP.grow hF hX hN, keeps_not hF hk⟩
omit hX in
theorem takeP (p : Nat) (s : Nt) (h : NetP X w p s) (q : Pk) (hq : q ∈ s.L) (x : Int) (hx : i64 x) (he : q.no = x) :
    Calls Try.prog 12 #[.pointer (some ⟨p, 0, none⟩), .int .i64 x] w fun e w' => e = .returned (.tuple #[.agg #[.int .i64 q.no, .int .i64 q.frm, .int .i64 q.to, .string q.txt], .bool true]) ∧ NetP X w' p (s.del x) ∧ Keeps (fun k => ¬ X k) w w' := by
  obtain ⟨F, h, hF⟩ := h
  exact (take_yes w p s F h q hq x hx he).mono fun _ _ ⟨he, hk, hN⟩ => ⟨he, ⟨F, hN, hF⟩, keeps_not hF hk⟩
omit hX in
theorem takeNoP (p : Nat) (s : Nt) (h : NetP X w p s) (x : Int) (hx : i64 x) (hn : ∀ q ∈ s.L, q.no ≠ x) :
    Calls Try.prog 12 #[.pointer (some ⟨p, 0, none⟩), .int .i64 x] w fun e w' => e = .returned (.tuple #[.agg #[.int .i64 0, .int .i64 0, .int .i64 0, .string ⟨#[]⟩], .bool false]) ∧ NetP X w' p s ∧ Below w.heap.size w w' := by
  obtain ⟨F, h, hF⟩ := h
  exact (take_no w p s F h x hx hn).mono fun _ _ ⟨he, hb⟩ => ⟨he, ⟨F, h.fresh hb, hF⟩, hb⟩
theorem copyP (p : Nat) (s : Nt) (h : NetP X w p s) (q : Pk) (hq : q ∈ s.L) (x : Int) (hx : i64 x) (he : q.no = x) (hb1 : s.last ≤ 1000000000000) (hb2 : s.lost ≤ 1000000000000) :
    Calls Try.prog 11 #[.pointer (some ⟨p, 0, none⟩), .int .i64 x] w fun e w' => e = .returned (.tuple #[.int .i64 (s.send q.frm q.to q.txt).2.1, .int .i64 (s.send q.frm q.to q.txt).2.2]) ∧ NetP X w' p (s.send q.frm q.to q.txt).1 ∧ Keeps (fun k => ¬ X k) w w' := by
  obtain ⟨F, h, hF⟩ := h
  exact (copy_yes w p s F h q hq x hx he hb1 hb2).mono fun _ _ ⟨he, hk, hN⟩ => ⟨he, NetP.grow hF hX hN, keeps_not hF hk⟩
omit hX in
theorem turnP (p : Nat) (s : Nt) (h : NetP X w p s) (q : Pk) (hq : q ∈ s.L) (x : Int) (hx : i64 x) (he : q.no = x) (k : Nat) (by_ : Int) (hk : k < q.txt.size) (hby : 0 ≤ by_ ∧ by_ ≤ 255) :
    Calls Try.prog 10 #[.pointer (some ⟨p, 0, none⟩), .int .i64 x, .int .i64 k, .int .u8 by_] w fun e w' => e = .returned (.bool true) ∧ NetP X w' p (s.turn x (turnB q.txt k by_)) ∧ Keeps (fun k => ¬ X k) w w' := by
  obtain ⟨F, h, hF⟩ := h
  exact (turn_in w p s F h q hq x hx he k by_ hk hby).mono fun _ _ ⟨he, hk, hN⟩ => ⟨he, ⟨F, hN, hF⟩, keeps_not hF hk⟩
omit hX in
theorem turnNoP (p : Nat) (s : Nt) (h : NetP X w p s) (q : Pk) (hq : q ∈ s.L) (x : Int) (hx : i64 x) (he : q.no = x) (at_ by_ : Int) (ho : at_ < 0 ∨ (q.txt.size : Int) ≤ at_) :
    Calls Try.prog 10 #[.pointer (some ⟨p, 0, none⟩), .int .i64 x, .int .i64 at_, .int .u8 by_] w fun e w' => e = .returned (.bool false) ∧ w = w' := by
  obtain ⟨F, h, hF⟩ := h
  exact turn_out w p s F h q hq x hx he at_ by_ ho
omit hX in
theorem lenP (p : Nat) (s : Nt) (h : NetP X w p s) : Calls Try.prog 14 #[.pointer (some ⟨p, 0, none⟩)] w fun e w' => e = .returned (.int .i64 s.L.length) ∧ w = w' := by
  obtain ⟨F, h, hF⟩ := h
  exact len_any w p s F h
omit hX in
theorem lostP (p : Nat) (s : Nt) (h : NetP X w p s) : Calls Try.prog 17 #[.pointer (some ⟨p, 0, none⟩)] w fun e w' => e = .returned (.int .i64 s.lost) ∧ w = w' := by
  obtain ⟨F, h, hF⟩ := h
  exact lost_any w p s F h
end

theorem pick_any (w : World) (c n : Int) (hc : i64 c) (hn : 1 ≤ n ∧ n ≤ 1000000000) : Calls Try.prog 13 #[.int .i64 c, .int .i64 n] w fun e w' => e = .returned (.int .i64 ((if c < 0 then -(c + 1) else c) % n)) ∧ w = w' := by
  obtain ⟨c1, c2⟩ := hc
  obtain ⟨n1, n2⟩ := hn
  by_cases h : c < 0
  · have d1 : decide (c < 0) = true := by simpa using h
    rw [if_pos h]
    have hb1 : 0 ≤ -(c + 1) := by omega
    have hv : -((c + 1).tmod n) = -(c + 1) % n := by rw [← Int.neg_tmod, Int.tmod_eq_emod_of_nonneg hb1]
    rw [← hv]
    clear hv
    go_enter Try.func13, Try.ntmps13
    go_wp2_with fail
    go_ret
    exact ⟨rfl, rfl⟩
  · have d1 : decide (c < 0) = false := by simpa using h
    rw [if_neg h]
    have hb1 : 0 ≤ c := by omega
    go_enter Try.func13, Try.ntmps13
    go_wp2_with fail
    go_ret
    exact ⟨rfl, rfl⟩

set_option maxHeartbeats 1000000 in
theorem shown_any (w : World) : Calls Try.prog 7 #[] w fun e w' => e = .returned (.bool true) ∧ Below w.heap.size w w' := by
  go_enter Try.func7, Try.ntmps7
  go_wp2_with fail
  refine (newP w (fun k => k < w.heap.size) (fun _ h => h) 1 (by decide) (by decide)).mono ?_
  rintro e w1 ⟨p, rfl, hN1, hB1⟩
  have HN1 := Lib.hid hN1
  have HB1 := Lib.hid hB1
  clear hN1 hB1
  go_wp2_with fail
  refine (sendP w1 _ (fun k hk => Nat.lt_of_lt_of_le hk HB1.out.size) p _ HN1.out 1 2 ⟨#[120]⟩ (by decide) (by decide) (by decide)).mono ?_
  rintro e w2 ⟨he, hN2, hK2⟩
  obtain rfl : e = .returned (.tuple #[.int .i64 1, .int .i64 0]) := he
  have HN2 : Hid (NetP (fun k => k < w.heap.size) w2 p ⟨1, 1, 0, [⟨1, 1, 2, ⟨#[120]⟩⟩]⟩) := Lib.hid hN2
  have HB2 := Lib.hid (HB1.out.trans (below_not hK2 HB1.out.size (fun _ h => h)))
  clear hN2 hK2
  go_wp2_with fail
  refine (sendP w2 _ (fun k hk => Nat.lt_of_lt_of_le hk HB2.out.size) p _ HN2.out 1 2 ⟨#[121]⟩ (by decide) (by decide) (by decide)).mono ?_
  rintro e w3 ⟨he, hN3, hK3⟩
  obtain rfl : e = .returned (.tuple #[.int .i64 0, .int .i64 8]) := he
  have HN3 : Hid (NetP (fun k => k < w.heap.size) w3 p ⟨1, 1, 1, [⟨1, 1, 2, ⟨#[120]⟩⟩]⟩) := Lib.hid hN3
  have HB3 := Lib.hid (HB2.out.trans (below_not hK3 HB2.out.size (fun _ h => h)))
  clear hN3 hK3
  go_wp2_with fail
  refine (takeP w3 _ p _ HN3.out ⟨1, 1, 2, ⟨#[120]⟩⟩ (List.mem_singleton.2 rfl) 1 (by unfold i64; omega) rfl).mono ?_
  rintro e w4 ⟨he, hN4, hK4⟩
  subst he
  have HN4 : Hid (NetP (fun k => k < w.heap.size) w4 p ⟨1, 1, 1, []⟩) := Lib.hid hN4
  have HB4 := Lib.hid (HB3.out.trans (below_not hK4 HB3.out.size (fun _ h => h)))
  clear hN4 hK4
  go_wp2_with fail
  refine (takeNoP _ _ p _ (HN4.out.fresh ((Below.refl _ _).alloc (Nat.le_refl _) _)) 1 (by unfold i64; omega) (by simp)).mono ?_
  rintro e w5 ⟨he, hN5, hB5⟩
  subst he
  have hs5 := hB5.size
  rw [World.size_alloc] at hs5
  have hs6 : w4.heap.size < w5.heap.size := by omega
  have c3 := (hB5.cell (p := ⟨w4.heap.size, 3, none⟩) (by simp)).trans (cell_of_row _ w4.heap.size 3 _ _ _ (heap_alloc_new w4 _))
  change w5.cell? ⟨w4.heap.size, 3, none⟩ = some (.string ⟨#[120]⟩) at c3
  have HB5 := Lib.hid (HB4.out.trans (((Below.refl _ _).alloc HB4.out.size _).trans (hB5.mono (by have := HB4.out.size; simp; omega))))
  clear hN5 hB5
  go_wp2_with fail
  go_ret
  exact ⟨rfl, HB5.out.alloc (by have := HB4.out.size; omega) _⟩

/-- What is done with a net, of raw numbers. -/
structure Ac where
  op : Int
  frm : Int
  to : Int
  no : Int
  txt : ByteArray
def acc (a : Ac) : List Value := [.int .i64 a.op, .int .i64 a.frm, .int .i64 a.to, .int .i64 a.no, .string a.txt]
def AcOk (a : Ac) : Prop := i64 a.op ∧ i64 a.frm ∧ i64 a.to ∧ i64 a.no ∧ a.txt.size ≤ 140737488355328
def acS (a : Ac) : Bool := decide (a.txt.size ≤ 9000)
def smallB (l : List Ac) : Bool := decide (l.length ≤ 100) && l.all acS
theorem all_take_succ {α : Type} {p : α → Bool} {l : List α} {k : Nat} (hk : k < l.length) (h : (l.take k).all p = true) (hp : p l[k] = true) : (l.take (k + 1)).all p = true := by
  rw [List.take_succ_eq_append_getElem hk, List.all_append, h]; simp [hp]
theorem all_false_of {α : Type} {p : α → Bool} {l : List α} {k : Nat} (hk : k < l.length) (hp : p l[k] = false) : l.all p = false := by
  rw [List.all_eq_false]
  exact ⟨l[k], List.getElem_mem hk, by simp [hp]⟩

set_option maxHeartbeats 400000 in
theorem small_any (w : World) (G : Nat → Prop) (v : Value) (l : List Ac) (h : Sl w G 5 acc v l) (hok : ∀ a ∈ l, AcOk a) :
    Calls Try.prog 16 #[v] w fun e w' => e = .returned (.bool (smallB l)) ∧ w = w' := by
  obtain ⟨A, c, rfl, hA1, hA2⟩ := h.shape
  unfold maxLen at hA2
  have HA := Lib.hid h
  have HO := Lib.hid hok
  clear h hok
  by_cases h60 : l.length ≤ 100
  · have d0 : decide ((100 : Int) < (l.length : Int)) = false := by simp; omega
    go_enter Try.func16, Try.ntmps16
    go_wp2_with fail
    go_loop [3] (fun i => ∃ k : Nat, k ≤ l.length ∧ i = .int .i64 k ∧ (l.take k).all acS = true) (fun i => l.length - (intOf i).toNat)
    case atStart => exact ⟨0, Nat.zero_le _, rfl, rfl⟩
    case round =>
      obtain ⟨k, hk, rfl, hH'⟩ := hrel
      have hH := Lib.hid hH'
      clear hH'
      by_cases hlt : k < l.length
      · obtain ⟨b, o, rfl, _, _, hxx⟩ := HA.out.cell_ hlt
        have hsz := (HO.out l[k] (List.getElem_mem hlt)).2.2.2.2
        have x4 := hxx 4 _ rfl
        clear hxx
        by_cases t1 : l[k].txt.size ≤ 9000
        · have d1 : decide ((9000 : Int) < (l[k].txt.size : Int)) = false := by simp; omega
          go_wp2_with fail
          go_round
          case rel => exact ⟨k + 1, by omega, by go_num, all_take_succ hlt hH.out (by simp [acS, t1])⟩
          case measure => simp [intOf]; omega
        · have d1 : decide ((9000 : Int) < (l[k].txt.size : Int)) = true := by simp; omega
          go_wp2_with fail
          go_ret
          have : smallB l = false := by
            simp only [smallB, Bool.and_eq_false_iff]
            exact .inr (all_false_of hlt (by simp [acS, t1]))
          rw [this]
          exact ⟨rfl, rfl⟩
      · have hkd : k = l.length := by omega
        subst hkd
        go_wp2_with fail
        go_ret
        have h := hH.out
        rw [List.take_of_length_le (Nat.le_refl _)] at h
        have : smallB l = true := by simp [smallB, h, h60]
        rw [this]
        exact ⟨rfl, rfl⟩
  · have d0 : decide ((100 : Int) < (l.length : Int)) = true := by simp; omega
    have : smallB l = false := by simp [smallB, h60]
    rw [this]
    clear this h60
    go_enter Try.func16, Try.ntmps16
    go_wp2_with fail
    go_ret
    exact ⟨rfl, rfl⟩
end Go.Proofs.Ytnooggfecgidcaa
