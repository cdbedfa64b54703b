/- The manifest's epochs: Epoch, Raise. Under the stated premises on sizes. -/
import Derived.Test.YthdehdlbocgfaaaGreatDoorDskH
import Derived.Test.YthdehdlbocgfaaaGreatDoorFrmC
/- The manifest: its disk beside a fixed past; write. Under the stated premises on sizes. -/
namespace Go.Proofs.YthdehdlbocgfaaaGreatDoor
open Go.RowKit Go.Bl
attribute [local go_sem ↓] Go.wp_at_zero Go.wp_at_succ

/-- A disk d at p that keeps away from the blocks X (the tables are among them). -/
structure Qd (X : Nat → Prop) (w : World) (p : Nat) (d : Dk) : Prop where
  tabs : Tabs w
  low : ∀ k, k < 2 → X k
  hX : ∀ k, X k → k < w.heap.size
  disk : Dsk X w p d
/-- Only what is not X has turned. -/
abbrev Kx (X : Nat → Prop) (w w' : World) : Prop := Keeps (fun k => ¬ X k) w w'
theorem Kx.below {X : Nat → Prop} {w w' : World} {B : Nat} (h : Kx X w w') (hX : ∀ k, k < B → X k) (hB : B ≤ w.heap.size) : Below B w w' := below_notB h hB hX
theorem Kx.of_below {X : Nat → Prop} {w w' : World} (h : Below w.heap.size w w') : Kx X w w' := Keeps.of_fresh h _
section
variable {X : Nat → Prop} {w w' : World} {p : Nat} {d : Dk}
theorem Qd.step (h : Qd X w p d) {d' : Dk} (hD : Dsk X w' p d') (hk : Kx X w w') : Qd X w' p d' :=
  ⟨h.tabs.keep hk (fun k hk => by have := h.low k; exact Decidable.byContradiction fun hc => hk (this (by omega))) h.tabs.lt, h.low, fun k hk2 => Nat.lt_of_lt_of_le (h.hX k hk2) hk.size, hD⟩
theorem Qd.fresh (h : Qd X w p d) (hB : Below w.heap.size w w') : Qd X w' p d := h.step (h.disk.fresh hB) (Kx.of_below hB)
/-- Blocks of X may be written by others. -/
theorem Qd.keep (h : Qd X w p d) (hk : Keeps X w w') (ht : Tabs w') : Qd X w' p d := ⟨ht, h.low, fun k hk2 => Nat.lt_of_lt_of_le (h.hX k hk2) hk.size, h.disk.keep hk⟩
/-- What is new may join X. -/
theorem Qd.more {X' : Nat → Prop} (h : Qd X w p d) (hB : Below w.heap.size w w') (hm : ∀ k, X' k → X k ∨ w.heap.size ≤ k) (hl : ∀ k, X' k → k < w'.heap.size) (hw : ∀ k, k < 2 → X' k) : Qd X' w' p d :=
  ⟨h.tabs.fresh hB, hw, hl, (h.disk.more hm).fresh hB⟩
theorem Qd.ok (h : Qd X w p d) : d.Ok := h.disk.ok
theorem Qd.nodup (h : Qd X w p d) : (d.L.map Fl.name).Nodup := h.disk.nodup
theorem appendQ (h : Qd X w p d) (x s : ByteArray) (hx : x.size ≤ 1000000) (hs : s.size ≤ 1000000000000000) :
    Calls Tryz.prog 23 #[.pointer (some ⟨p, 0, none⟩), .string x, .string s] w fun e w' => e = .returned (.int .i64 (d.app x s).1) ∧ Qd X w' p (d.app x s).2 ∧ Kx X w w' :=
  (appendD w _ h.hX h.tabs p d h.disk x s hx hs).mono fun _ _ ⟨he, hD, hk⟩ => ⟨he, h.step hD hk, hk⟩
theorem renameQ (h : Qd X w p d) (x y : ByteArray) (hx : x.size ≤ 1000000) (hy : y.size ≤ 1000000) :
    Calls Tryz.prog 71 #[.pointer (some ⟨p, 0, none⟩), .string x, .string y] w fun e w' => e = .returned (.int .i64 (d.ren x y).1) ∧ Qd X w' p (d.ren x y).2 ∧ Kx X w w' :=
  (renameD w _ h.hX h.tabs p d h.disk x y hx hy).mono fun _ _ ⟨he, hD, hk⟩ => ⟨he, h.step hD hk, hk⟩
theorem deleteQ (h : Qd X w p d) (x : ByteArray) (hx : x.size ≤ maxLen) :
    Calls Tryz.prog 27 #[.pointer (some ⟨p, 0, none⟩), .string x] w fun e w' => e = .returned (.int .i64 (if d.find x = none then 6 else 0)) ∧ Qd X w' p (d.del x) ∧ Kx X w w' :=
  (deleteD w _ p d h.disk x hx).mono fun _ _ ⟨he, hD, hk⟩ => ⟨he, h.step hD hk, hk⟩
theorem syncQ (h : Qd X w p d) (x : ByteArray) (hx : x.size ≤ maxLen) :
    Calls Tryz.prog 44 #[.pointer (some ⟨p, 0, none⟩), .string x] w fun e w' => e = .returned (.int .i64 (if d.find x = none then 6 else 0)) ∧ Qd X w' p (d.sync x) ∧ Kx X w w' :=
  (syncD w _ p d h.disk x hx).mono fun _ _ ⟨he, hD, hk⟩ => ⟨he, h.step hD hk, hk⟩
theorem crashQ (h : Qd X w p d) (kv : Value) (keep : List Int) (hk : Sl w X 1 intc kv keep) :
    Calls Tryz.prog 25 #[.pointer (some ⟨p, 0, none⟩), kv] w fun e w' => e = .returned (.tuple #[]) ∧ ∃ ks, Names d.L ks ∧ Qd X w' p ⟨d.room, crashN keep ks d.L ks.length⟩ ∧ Kx X w w' :=
  (crashD w _ p d h.disk kv keep hk).mono fun _ _ ⟨he, ks, hN, hD, hk⟩ => ⟨he, ks, hN, h.step hD hk, hk⟩
theorem readQ (h : Qd X w p d) (x : ByteArray) (hx : x.size ≤ maxLen) : Calls Tryz.prog 33 #[.pointer (some ⟨p, 0, none⟩), .string x] w fun e w' => e = .returned (readV (d.find x)) ∧ w = w' := readD w _ p d h.disk x hx
theorem usedQ (h : Qd X w p d) : Calls Tryz.prog 31 #[.pointer (some ⟨p, 0, none⟩)] w fun e w' => e = .returned (.int .i64 d.used) ∧ w = w' := usedD w _ p d h.disk
end

def sTemp : ByteArray := ⟨#[116, 101, 109, 112]⟩
def sMark : ByteArray := ⟨#[101, 112, 111, 99, 104]⟩
def sFile : ByteArray := ⟨#[109, 97, 110, 105, 102, 101, 115, 116]⟩
/-- A file written as a whole: the error and the disk. -/
def Dk.wr (d : Dk) (x s : ByteArray) : Int × Dk :=
  if ((d.del sTemp).app sTemp s).1 = 0 then ((((d.del sTemp).app sTemp s).2).sync sTemp).ren sTemp x
  else (((d.del sTemp).app sTemp s).1, (((d.del sTemp).app sTemp s).2).del sTemp)
set_option maxRecDepth 8000 in
set_option maxHeartbeats 1000000 in
theorem writeQ {X : Nat → Prop} {w : World} {p : Nat} {d : Dk} (h : Qd X w p d) (x s : ByteArray) (hx : x.size ≤ 1000000) (hs : s.size ≤ 1000000000000000) :
    Calls Tryz.prog 47 #[.pointer (some ⟨p, 0, none⟩), .string x, .string s] w fun e w' => e = .returned (.int .i64 (d.wr x s).1) ∧ Qd X w' p (d.wr x s).2 ∧ Kx X w w' := by
  have H := Lib.hid h
  clear h
  have Hx := Lib.hid hx
  have Hs := Lib.hid hs
  clear hx hs
  go_enter Tryz.func47, Tryz.ntmps47
  go_wp2_with fail
  refine (deleteQ H.out ⟨#[116, 101, 109, 112]⟩ (by decide)).mono ?_
  rintro e w1 ⟨rfl, h1, k1⟩
  have K1 := Lib.hid k1
  clear k1
  have H1 := Lib.hid h1
  obtain ⟨ev, hev⟩ : ∃ ev : Int, (if d.find ⟨#[116, 101, 109, 112]⟩ = none then (6 : Int) else 0) = ev := ⟨_, rfl⟩
  rw [hev]
  clear h1 hev
  go_wp2_with fail
  refine (appendQ H1.out ⟨#[116, 101, 109, 112]⟩ s (by decide) Hs.out).mono ?_
  rintro e w2 ⟨rfl, h2, k2⟩
  have K2 := Lib.hid (K1.out.trans k2)
  clear k2
  obtain ⟨er, her⟩ : ∃ ev : Int, ((d.del ⟨#[116, 101, 109, 112]⟩).app ⟨#[116, 101, 109, 112]⟩ s).1 = ev := ⟨_, rfl⟩
  obtain ⟨d2, hd2⟩ : ∃ ev : Dk, ((d.del ⟨#[116, 101, 109, 112]⟩).app ⟨#[116, 101, 109, 112]⟩ s).2 = ev := ⟨_, rfl⟩
  rw [hd2] at h2
  rw [her]
  have H2 := Lib.hid h2
  have HW : Hid (d.wr x s = if er = 0 then (d2.sync sTemp).ren sTemp x else (er, d2.del sTemp)) := Lib.hid (by unfold Dk.wr; rw [← her, ← hd2]; rfl)
  clear h2 her hd2
  by_cases e0 : er = 0
  · have HW0 : Hid (d.wr x s = (d2.sync sTemp).ren sTemp x) := Lib.hid (by rw [HW.out, if_pos e0])
    clear HW
    subst e0
    go_wp2_with fail
    refine (syncQ H2.out ⟨#[116, 101, 109, 112]⟩ (by decide)).mono ?_
    rintro e w3 ⟨rfl, h3, k3⟩
    have K3 := Lib.hid (K2.out.trans k3)
    clear k3
    have H3 := Lib.hid h3
    obtain ⟨ev, hev⟩ : ∃ ev : Int, (if d2.find ⟨#[116, 101, 109, 112]⟩ = none then (6 : Int) else 0) = ev := ⟨_, rfl⟩
    rw [hev]
    clear h3 hev
    go_wp2_with fail
    refine (renameQ H3.out ⟨#[116, 101, 109, 112]⟩ x (by decide) Hx.out).mono ?_
    rintro e w4 ⟨rfl, h4, k4⟩
    have K4 := Lib.hid (K3.out.trans k4)
    clear k4
    have H4 := Lib.hid h4
    clear h4
    obtain ⟨er, her⟩ : ∃ ev : Int, ((d2.sync ⟨#[116, 101, 109, 112]⟩).ren ⟨#[116, 101, 109, 112]⟩ x).1 = ev := ⟨_, rfl⟩
    rw [her]
    have HR := Lib.hid her
    clear her
    go_wp2_with fail
    go_ret
    rw [HW0.out, ← HR.out]
    exact ⟨rfl, H4.out, K4.out⟩
  · have en : (er != 0) = true := by simpa using e0
    go_wp2_with fail
    refine (deleteQ H2.out ⟨#[116, 101, 109, 112]⟩ (by decide)).mono ?_
    rintro e w3 ⟨rfl, h3, k3⟩
    have K3 := Lib.hid (K2.out.trans k3)
    clear k3
    have H3 := Lib.hid h3
    obtain ⟨ev, hev⟩ : ∃ ev : Int, (if d2.find ⟨#[116, 101, 109, 112]⟩ = none then (6 : Int) else 0) = ev := ⟨_, rfl⟩
    rw [hev]
    clear h3 hev
    go_wp2_with fail
    go_ret
    rw [HW.out, if_neg e0]
    exact ⟨rfl, H3.out, K3.out⟩
end Go.Proofs.YthdehdlbocgfaaaGreatDoor

/- The manifest's epochs. Under the stated premises on sizes. -/
namespace Go.Proofs.YthdehdlbocgfaaaGreatDoor
open Go.RowKit Go.Bl
attribute [local go_sem ↓] Go.wp_at_zero Go.wp_at_succ

/-- What rows of numbers say that rise: the last one, how many, whether that is all. -/
def epsF : Int → Nat → List (List UInt8) → Int × Nat × Bool
  | last, i, [] => (last, i, true)
  | last, i, p :: l => if (tkN p).2.2 = 0 ∧ (tkN p).2.1 = [] ∧ last < (tkN p).1 ∧ (tkN p).1 ≤ 274877906944 then epsF (tkN p).1 (i + 1) l else (last, i, false)
def Dk.mark (d : Dk) : List UInt8 := match d.find sMark with | none => [] | some f => Lb f.bytes
def epsS (s : List UInt8) : Int × Nat × Bool := ((epsF 0 0 (scanS crcU s).1).1, (epsF 0 0 (scanS crcU s).1).2.1, (epsF 0 0 (scanS crcU s).1).2.2 && decide ((scanS crcU s).2 = []))
theorem scanS_pay : ∀ (f : Nat) (s : List UInt8), s.length ≤ f → ∀ x ∈ (scanS crcU s).1, x.length ≤ 8000
  | f, s, hf => by
    by_cases e : (tkF crcU s).2.2 = 0
    · have hl := tkF_len crcU (tkF_eta crcU e)
      rw [scanS_cons crcU e]
      match f, hf with
      | 0, hf => omega
      | f + 1, hf =>
        intro x hx
        rcases List.mem_cons.1 hx with rfl | hx
        · exact hl.2.2
        · exact scanS_pay f (tkF crcU s).2.1 (by omega) x hx
    · rw [scanS_nil crcU e]
      intro x hx
      cases hx
theorem tkN_bd (s : List UInt8) : 0 ≤ (tkN s).1 ∧ (tkN s).1 ≤ 1099511627776 ∧ 0 ≤ (tkN s).2.2 ∧ (tkN s).2.2 ≤ 4 ∧ (tkN s).2.1.length ≤ s.length := by
  have := tkL_bd s 0 0 (by omega) (by decide)
  unfold tkN
  refine ⟨by show (0 : Int) ≤ ((tkL 0 0 s).1 : Int); omega, by show ((tkL 0 0 s).1 : Int) ≤ _; omega, this.2.2.1, this.2.2.2, ?_⟩
  show (if _ then _ else _ : List UInt8).length ≤ _
  split
  · simp
  · simp
theorem empty_of {l : List UInt8} : ((Bl l).toList != (⟨#[]⟩ : ByteArray).toList) = !decide (l = []) ∧ ((Bl l).toList.isEmpty = decide (l = [])) := by
  have h1 : (Bl l).toList = l := by rw [ByteArray.toList_eq]; rfl
  have h2 : (⟨#[]⟩ : ByteArray).toList = [] := by rw [ByteArray.toList_eq]
  rw [h1, h2]
  cases l <;> simp
set_option maxRecDepth 8000 in
set_option maxHeartbeats 2000000 in
theorem epochsQ {X : Nat → Prop} {w : World} {p : Nat} {d : Dk} (h : Qd X w p d) :
    Calls Tryz.prog 42 #[.pointer (some ⟨p, 0, none⟩)] w fun e w' => e = .returned (.tuple #[.int .i64 (epsS d.mark).1, .int .i64 (epsS d.mark).2.1, .bool (epsS d.mark).2.2]) ∧ Below w.heap.size w w' := by
  obtain ⟨s, er, hr, hm⟩ : ∃ (s : ByteArray) (er : Int), readV (d.find ⟨#[101, 112, 111, 99, 104]⟩) = .tuple #[.string s, .int .i64 er] ∧ Lb s = d.mark := by
    unfold Dk.mark
    rw [show sMark = ⟨#[101, 112, 111, 99, 104]⟩ from rfl]
    cases d.find ⟨#[101, 112, 111, 99, 104]⟩ with
    | none => exact ⟨_, _, rfl, rfl⟩
    | some f => exact ⟨_, _, rfl, rfl⟩
  have hsz : s.size ≤ 1073741824 := by
    have : d.mark.length ≤ 1073741824 := by
      unfold Dk.mark
      cases hf : d.find sMark with
      | none => simp
      | some f =>
        have h1 := total_mem (find_some hf).1
        have h2 := h.ok.used
        have h3 := h.ok.room2
        show (Lb f.bytes).length ≤ _
        rw [Lb_len]
        omega
    rw [← hm, Lb_len] at this
    exact this
  rw [← hm]
  have H := Lib.hid h
  have hsc := fun W => scan_any W s hsz
  obtain ⟨L, hL⟩ : ∃ L, L = (scanS crcU (Lb s)).1 := ⟨_, rfl⟩
  obtain ⟨R, hR⟩ : ∃ R, R = (scanS crcU (Lb s)).2 := ⟨_, rfl⟩
  have hlen := scanS_len crcU s.size (Lb s) (Nat.le_refl _)
  rw [← hL, ← hR] at hsc
  rw [← hL, ← hR, Lb_len] at hlen
  have HS : Hid (epsS (Lb s) = ((epsF 0 0 L).1, (epsF 0 0 L).2.1, (epsF 0 0 L).2.2 && decide (R = []))) := Lib.hid (by unfold epsS; rw [← hL, ← hR])
  have hR2 : ((s.size : Int) - (R.length : Int) == (s.size : Int)) = decide (R = []) := by
    by_cases e : R = []
    · subst e; simp
    · rw [decide_eq_false e, beq_eq_false_iff_ne]
      have := List.length_pos_iff.2 e
      omega
  have hLs : ∀ x ∈ L, x.length ≤ 8000 := by rw [hL]; exact scanS_pay s.size (Lb s) (Nat.le_refl _)
  have HC := Lib.hid hsc
  have HR2 := Lib.hid hR2
  have hLb : L.length ≤ 1073741824 := by omega
  have HRd := Lib.hid hr
  have HLs := Lib.hid hLs
  clear h hsc hL hR hm hsz hr hR2 hlen hLs
  go_enter Tryz.func42, Tryz.ntmps42
  go_wp2_with fail
  refine (readQ H.out ⟨#[101, 112, 111, 99, 104]⟩ (by decide)).mono ?_
  rintro e w1 ⟨rfl, rfl⟩
  rw [HRd.out]
  go_wp2_with fail
  refine (HC.out _).mono ?_
  rintro e w2 ⟨v, rfl, hSl, hB⟩
  have HSl := Lib.hid hSl
  obtain ⟨A, c, rfl, hA1, hA2⟩ := hSl.shape
  rw [List.length_map] at hA1
  have hlm : (L.map Bl).length = L.length := List.length_map _
  rw [hlm]
  unfold maxLen at hA2
  clear hSl hlm
  go_wp2_with fail
  go_loopw [9, 27] (fun n i wr => ∃ (k : Nat) (last : Int), k ≤ L.length ∧ 0 ≤ last ∧ last ≤ 274877906944 ∧ n = .int .i64 last ∧ i = .int .i64 k ∧ Below w2.heap.size w2 wr ∧ Hid (epsF 0 0 L = epsF last k (L.drop k))) (fun _ i _ => L.length - (intOf i).toNat)
  case atStart => exact ⟨0, 0, Nat.zero_le _, by omega, by omega, rfl, rfl, Below.refl _ _, Lib.hid rfl⟩
  case round =>
    obtain ⟨k, last, hk, hl0, hl1, rfl, rfl, hBr, hE⟩ := hrel
    have HBr := Lib.hid hBr
    clear hBr
    by_cases hlt : k < L.length
    · have d0 : decide ((k : Int) < (L.length : Int)) = true := by simp; omega
      obtain ⟨b, o, rfl, _, _, hxx⟩ := (HSl.out.fresh HBr.out).cell_ (by rw [List.length_map]; exact hlt)
      have x0 := hxx 0 _ rfl
      rw [List.getElem_map, Nat.mul_one, Nat.add_zero] at x0
      have hP8 := HLs.out L[k] (List.getElem_mem hlt)
      have hdrop : L.drop k = L[k] :: L.drop (k + 1) := List.drop_eq_getElem_cons hlt
      obtain ⟨P, hP⟩ : ∃ P, P = L[k] := ⟨_, rfl⟩
      rw [← hP] at x0 hP8 hdrop
      have hbd := tkN_bd P
      have hc := fun W => take_any W (Bl P) (by rw [Bl_size]; omega)
      rw [Lb_Bl] at hc
      have hE2 : Hid (epsF 0 0 L = if (tkN P).2.2 = 0 ∧ (tkN P).2.1 = [] ∧ last < (tkN P).1 ∧ (tkN P).1 ≤ 274877906944 then epsF (tkN P).1 (k + 1) (L.drop (k + 1)) else (last, k, false)) := Lib.hid (by rw [hE.out, hdrop]; rfl)
      obtain ⟨n, hn⟩ : ∃ P', P' = (tkN P).1 := ⟨_, rfl⟩
      obtain ⟨r, hr⟩ : ∃ P', P' = (tkN P).2.1 := ⟨_, rfl⟩
      obtain ⟨q, hq⟩ : ∃ P', P' = (tkN P).2.2 := ⟨_, rfl⟩
      rw [← hn, ← hr, ← hq] at hc hE2 hbd
      obtain ⟨hb1, hb2, hb3, hb4, hb5⟩ := hbd
      have hem := empty_of (l := r)
      have HC := Lib.hid hc
      clear hxx hdrop hP hn hr hq hc hE
      by_cases hg : q = 0 ∧ r = [] ∧ last < n ∧ n ≤ 274877906944
      · rw [if_pos hg] at hE2
        obtain ⟨g1, g2, g3, g4⟩ := hg
        rw [decide_eq_true g2] at hem
        have G1 : (q != 0) = false := by rw [g1]; rfl
        clear g1 g2
        go_wp2_with fail
        refine (HC.out _).mono ?_
        rintro e w3 ⟨rfl, hB3⟩
        have HB3 := Lib.hid (HBr.out.trans (hB3.mono HBr.out.size))
        clear hB3
        go_wp2_with fail
        go_roundw
        case rel => exact ⟨k + 1, n, by omega, by omega, by omega, rfl, by go_num, HB3.out, hE2⟩
        case measure => simp [intOf]; omega
      · rw [if_neg hg] at hE2
        have HG := Lib.hid hg
        have HR : Hid (epsS (Lb s) = (last, k, false)) := Lib.hid (by
          rw [HS.out, hE2.out]
          rfl)
        clear hg
        go_wp2_with fail
        refine (HC.out _).mono ?_
        rintro e w3 ⟨rfl, hB3⟩
        have HB3 := Lib.hid (HBr.out.trans (hB3.mono HBr.out.size))
        clear hB3
        go_wp2_with fail
        all_goals first
          | (exfalso; exact HG.out ⟨by assumption, by assumption, by assumption, by omega⟩)
          | (go_ret3; rw [HR.out]; exact ⟨rfl, hB.trans (HB3.out.mono hB.size)⟩)
    · have d0 : decide ((k : Int) < (L.length : Int)) = false := by simp; omega
      have hkl : k = L.length := by omega
      have HR : Hid (epsS (Lb s) = (last, L.length, decide (R = []))) := Lib.hid (by
        rw [HS.out, hE.out, List.drop_of_length_le (by omega), ← hkl]
        unfold epsF
        simp)
      have hR2 := HR2.out
      clear hkl
      go_wp2_with fail
      go_ret3
      rw [HR.out]
      exact ⟨rfl, hB.trans (HBr.out.mono hB.size)⟩
end Go.Proofs.YthdehdlbocgfaaaGreatDoor

namespace Go.Proofs.YthdehdlbocgfaaaGreatDoor
open Go.RowKit Go.Bl
attribute [local go_sem ↓] Go.wp_at_zero Go.wp_at_succ

theorem epochQ {X : Nat → Prop} {w : World} {p : Nat} {d : Dk} (h : Qd X w p d) :
    Calls Tryz.prog 13 #[.pointer (some ⟨p, 0, none⟩)] w fun e w' => e = .returned (.int .i64 (epsS d.mark).1) ∧ Below w.heap.size w w' := by
  have hc := Lib.hid (epochsQ h)
  clear h
  go_enter Tryz.func13, Tryz.ntmps13
  go_wp2_with fail
  refine hc.out.mono ?_
  rintro e w1 ⟨rfl, hB⟩
  go_wp2_with fail
  go_ret
  exact ⟨rfl, hB⟩
/-- The frame of an epoch. -/
def mkF (n : Int) : ByteArray := Bl (frmL crcU (bytesOf (putL n.toNat)))
def Dk.raise (d : Dk) (n : Int) : Int × Dk :=
  if n < 1 ∨ 274877906944 < n then (1, d)
  else if n < (epsS d.mark).1 then (10, d)
  else if n = (epsS d.mark).1 then (if d.find sMark = none then 6 else 0, d.sync sMark)
  else
    let r := if (epsS d.mark).2.2 = true ∧ (epsS d.mark).2.1 ≤ 20 then d.app sMark (mkF n) else d.wr sMark (mkF n)
    if r.1 = 0 then (if r.2.find sMark = none then 6 else 0, r.2.sync sMark) else r
theorem putL_pos (n : Nat) : 0 < (putL n).length := by
  by_cases h : n < 128
  · rw [putL_small h]; simp
  · rw [putL_big h]; simp
theorem epsF_bd : ∀ (l : List (List UInt8)) (a : Int) (i : Nat), 0 ≤ a → a ≤ 274877906944 → 0 ≤ (epsF a i l).1 ∧ (epsF a i l).1 ≤ 274877906944 ∧ (epsF a i l).2.1 ≤ i + l.length
  | [], a, i, h0, h1 => ⟨h0, h1, Nat.le_refl _⟩
  | p :: l, a, i, h0, h1 => by
    unfold epsF
    split
    · rename_i hg
      have := epsF_bd l (tkN p).1 (i + 1) (by omega) hg.2.2.2
      refine ⟨this.1, this.2.1, ?_⟩
      rw [List.length_cons]
      omega
    · exact ⟨h0, h1, Nat.le_add_right _ _⟩
theorem mark_len {X : Nat → Prop} {w : World} {p : Nat} {d : Dk} (h : Qd X w p d) : d.mark.length ≤ 1073741824 := by
  unfold Dk.mark
  cases hf : d.find sMark with
  | none => simp
  | some f =>
    have h1 := total_mem (find_some hf).1
    have h2 := h.ok.used
    have h3 := h.ok.room2
    show (Lb f.bytes).length ≤ _
    rw [Lb_len]
    omega
set_option maxRecDepth 8000 in
set_option maxHeartbeats 2000000 in
theorem raiseQ {X : Nat → Prop} {w : World} {p : Nat} {d : Dk} (h : Qd X w p d) (n : Int) :
    Calls Tryz.prog 17 #[.pointer (some ⟨p, 0, none⟩), .int .i64 n] w fun e w' => e = .returned (.int .i64 (d.raise n).1) ∧ Qd X w' p (d.raise n).2 ∧ Kx X w w' := by
  have hc := epochsQ h
  have hml := mark_len h
  have hbd := epsF_bd (scanS crcU d.mark).1 0 0 (by omega) (by omega)
  have hsl := scanS_len crcU _ d.mark (Nat.le_refl _)
  have H := Lib.hid h
  have HR : Hid (d.raise n = if n < 1 ∨ 274877906944 < n then (1, d)
      else if n < (epsS d.mark).1 then (10, d)
      else if n = (epsS d.mark).1 then (if d.find sMark = none then 6 else 0, d.sync sMark)
      else if ((if (epsS d.mark).2.2 = true ∧ (epsS d.mark).2.1 ≤ 20 then d.app sMark (mkF n) else d.wr sMark (mkF n))).1 = 0 then (if ((if (epsS d.mark).2.2 = true ∧ (epsS d.mark).2.1 ≤ 20 then d.app sMark (mkF n) else d.wr sMark (mkF n))).2.find sMark = none then 6 else 0, ((if (epsS d.mark).2.2 = true ∧ (epsS d.mark).2.1 ≤ 20 then d.app sMark (mkF n) else d.wr sMark (mkF n))).2.sync sMark) else (if (epsS d.mark).2.2 = true ∧ (epsS d.mark).2.1 ≤ 20 then d.app sMark (mkF n) else d.wr sMark (mkF n))) := Lib.hid rfl
  obtain ⟨a, ha⟩ : ∃ a, a = (epsS d.mark).1 := ⟨_, rfl⟩
  obtain ⟨m, hm⟩ : ∃ a, a = (epsS d.mark).2.1 := ⟨_, rfl⟩
  obtain ⟨b, hb⟩ : ∃ a, a = (epsS d.mark).2.2 := ⟨_, rfl⟩
  have ha1 : 0 ≤ a := by rw [ha]; exact hbd.1
  have ha2 : a ≤ 274877906944 := by rw [ha]; exact hbd.2.1
  have hm2 : m ≤ 1073741824 := by
    have h1 : m ≤ 0 + (scanS crcU d.mark).1.length := by rw [hm]; exact hbd.2.2
    omega
  rw [← ha, ← hm, ← hb] at hc HR
  have HC := Lib.hid hc
  clear h hc hbd hsl ha hm hb hml
  by_cases g1 : n < 1 ∨ 274877906944 < n
  · rw [if_pos g1] at HR
    have G := Lib.hid g1
    clear g1
    go_enter Tryz.func17, Tryz.ntmps17
    go_wp2_with fail
    refine HC.out.mono ?_
    rintro e w1 ⟨rfl, hB⟩
    have H1 := Lib.hid (H.out.fresh hB)
    have K1 := Lib.hid (Kx.of_below (X := X) hB)
    clear hB
    go_wp2_with fail
    all_goals first
      | (exfalso; have := G.out; omega)
      | (go_ret; rw [HR.out]; exact ⟨rfl, H1.out, K1.out⟩)
  · rw [if_neg g1] at HR
    have n1 : 1 ≤ n := by omega
    have n2 : n ≤ 274877906944 := by omega
    have d1 : decide (n < 1) = false := by simp; omega
    have d2 : decide (274877906944 < n) = false := by simp; omega
    by_cases g2 : n < a
    · rw [if_pos g2] at HR
      clear g1
      go_enter Tryz.func17, Tryz.ntmps17
      go_wp2_with fail
      refine HC.out.mono ?_
      rintro e w1 ⟨rfl, hB⟩
      have H1 := Lib.hid (H.out.fresh hB)
      have K1 := Lib.hid (Kx.of_below (X := X) hB)
      clear hB
      go_wp2_with fail
      go_ret
      rw [HR.out]
      exact ⟨rfl, H1.out, K1.out⟩
    · rw [if_neg g2] at HR
      have d3 : decide (n < a) = false := by simp; omega
      by_cases g3 : n = a
      · rw [if_pos g3] at HR
        have d4 : (n == a) = true := by rw [beq_iff_eq]; exact g3
        clear g1 g3
        go_enter Tryz.func17, Tryz.ntmps17
        go_wp2_with fail
        refine HC.out.mono ?_
        rintro e w1 ⟨rfl, hB⟩
        have H1 := Lib.hid (H.out.fresh hB)
        have K1 := Lib.hid (Kx.of_below (X := X) hB)
        clear hB
        go_wp2_with fail
        refine (syncQ H1.out ⟨#[101, 112, 111, 99, 104]⟩ (by decide)).mono ?_
        rintro e w2 ⟨rfl, h2, k2⟩
        have H2 := Lib.hid h2
        have K2 := Lib.hid (K1.out.trans k2)
        clear h2 k2
        obtain ⟨ev, hev⟩ : ∃ ev : Int, (if d.find ⟨#[101, 112, 111, 99, 104]⟩ = none then (6 : Int) else 0) = ev := ⟨_, rfl⟩
        rw [hev]
        have HR2 : Hid (d.raise n = (ev, d.sync ⟨#[101, 112, 111, 99, 104]⟩)) := Lib.hid (by rw [HR.out, ← hev]; rfl)
        clear hev
        go_wp2_with fail
        go_ret
        rw [HR2.out]
        exact ⟨rfl, H2.out, K2.out⟩
      · rw [if_neg g3] at HR
        have d4 : (n == a) = false := by rw [beq_eq_false_iff_ne]; exact g3
        obtain ⟨N, hN⟩ : ∃ N : Nat, N = n.toNat := ⟨_, rfl⟩
        have hNn : (n : Int) = (N : Int) := by omega
        have hp := fun W => put_any W n N (by unfold holdI gmax gmin; omega)
        obtain ⟨q, hq⟩ : ∃ q, q = putB N := ⟨_, rfl⟩
        have hq1 : Lb q = bytesOf (putL N) := by rw [hq]; rfl
        have hqs : q.size = (putL N).length := by rw [← Lb_len, hq1]; unfold bytesOf; rw [List.length_map]
        have hq2 := putL_len 5 N (by omega)
        have hq3 := putL_pos N
        have hf := fun W => framePut_any W q (by omega) (by omega)
        obtain ⟨f, hff⟩ : ∃ f, f = Bl (frmL crcU (Lb q)) := ⟨_, rfl⟩
        have hfm : mkF n = f := by rw [hff, hq1, hN]; rfl
        have hfs : f.size ≤ 20 := by
          rw [hff, Bl_size]
          unfold frmL
          rw [List.length_append, List.length_append, fixL_len, fixL_len, Lb_len]
          omega
        rw [← hq] at hp
        rw [← hff] at hf
        rw [hfm] at HR
        have HP := Lib.hid hp
        have HF := Lib.hid hf
        clear hp hf hfm hff hq2 hq3 hqs hq1 hq hNn hN g1 g3
        have hfs2 : f.size ≤ 1000000000000000 := by omega
        by_cases g4 : b = true ∧ m ≤ 20
        · simp only [if_pos g4] at HR
          obtain ⟨rfl, g5⟩ := g4
          have d5 : decide ((m : Int) ≤ 20) = true := by simp; omega
          go_enter Tryz.func17, Tryz.ntmps17
          go_wp2_with fail
          refine HC.out.mono ?_
          rintro e w1 ⟨rfl, hB⟩
          have H1 := Lib.hid (H.out.fresh hB)
          have K1 := Lib.hid (Kx.of_below (X := X) hB)
          clear hB
          go_wp2_with fail
          refine (HP.out _).mono ?_
          rintro e w2 ⟨rfl, hB⟩
          have H2 := Lib.hid (H1.out.fresh hB)
          have K2 := Lib.hid (K1.out.trans (Kx.of_below (X := X) hB))
          clear hB
          go_wp2_with fail
          refine (HF.out _).mono ?_
          rintro e w3 ⟨rfl, hB⟩
          have H3 := Lib.hid (H2.out.fresh hB)
          have K3 := Lib.hid (K2.out.trans (Kx.of_below (X := X) hB))
          clear hB
          go_wp2_with fail
          refine (appendQ H3.out ⟨#[101, 112, 111, 99, 104]⟩ f (by decide) hfs2).mono ?_
          rintro e w4 ⟨rfl, h4, k4⟩
          rw [show (⟨#[101, 112, 111, 99, 104]⟩ : ByteArray) = sMark from rfl] at h4 ⊢
          obtain ⟨er, her⟩ : ∃ ev : Int, (d.app sMark f).1 = ev := ⟨_, rfl⟩
          obtain ⟨D, hD⟩ : ∃ ev : Dk, (d.app sMark f).2 = ev := ⟨_, rfl⟩
          rw [hD] at h4
          rw [her]
          have hpr : (d.app sMark f) = (er, D) := by rw [← her, ← hD]
          rw [her, hD] at HR
          have H4 := Lib.hid h4
          have K4 := Lib.hid (K3.out.trans k4)
          clear k4
          have HPR := Lib.hid hpr
          clear h4 her hD hpr
          by_cases e0 : er = 0
          · rw [if_pos e0] at HR
            subst e0
            go_wp2_with fail
            refine (syncQ H4.out ⟨#[101, 112, 111, 99, 104]⟩ (by decide)).mono ?_
            rintro e w5 ⟨rfl, h5, k5⟩
            have H5 := Lib.hid h5
            have K5 := Lib.hid (K4.out.trans k5)
            clear h5 k5
            obtain ⟨ev, hev⟩ : ∃ ev : Int, (if D.find ⟨#[101, 112, 111, 99, 104]⟩ = none then (6 : Int) else 0) = ev := ⟨_, rfl⟩
            rw [hev]
            have HR2 : Hid (d.raise n = (ev, D.sync ⟨#[101, 112, 111, 99, 104]⟩)) := Lib.hid (by rw [HR.out, ← hev]; rfl)
            clear hev
            go_wp2_with fail
            go_ret
            rw [HR2.out]
            exact ⟨rfl, H5.out, K5.out⟩
          · rw [if_neg e0] at HR
            have en : (er != 0) = true := by simpa using e0
            have HR2 : Hid (d.raise n = (er, D)) := Lib.hid (HR.out.trans HPR.out)
            clear HR e0
            go_wp2_with fail
            go_ret
            rw [HR2.out]
            exact ⟨rfl, H4.out, K4.out⟩
        · simp only [if_neg g4] at HR
          have G4 := Lib.hid g4
          clear g4
          go_enter Tryz.func17, Tryz.ntmps17
          go_wp2_with fail
          refine HC.out.mono ?_
          rintro e w1 ⟨rfl, hB⟩
          have H1 := Lib.hid (H.out.fresh hB)
          have K1 := Lib.hid (Kx.of_below (X := X) hB)
          clear hB
          go_wp2_with fail
          refine (HP.out _).mono ?_
          rintro e w2 ⟨rfl, hB⟩
          have H2 := Lib.hid (H1.out.fresh hB)
          have K2 := Lib.hid (K1.out.trans (Kx.of_below (X := X) hB))
          clear hB
          go_wp2_with fail
          refine (HF.out _).mono ?_
          rintro e w3 ⟨rfl, hB⟩
          have H3 := Lib.hid (H2.out.fresh hB)
          have K3 := Lib.hid (K2.out.trans (Kx.of_below (X := X) hB))
          clear hB
          cases b with
          | false =>
            go_wp2_with fail
            refine (writeQ H3.out ⟨#[101, 112, 111, 99, 104]⟩ f (by decide) hfs2).mono ?_
            rintro e w4 ⟨rfl, h4, k4⟩
            rw [show (⟨#[101, 112, 111, 99, 104]⟩ : ByteArray) = sMark from rfl] at h4 ⊢
            obtain ⟨er, her⟩ : ∃ ev : Int, (d.wr sMark f).1 = ev := ⟨_, rfl⟩
            obtain ⟨D, hD⟩ : ∃ ev : Dk, (d.wr sMark f).2 = ev := ⟨_, rfl⟩
            rw [hD] at h4
            rw [her]
            have hpr : (d.wr sMark f) = (er, D) := by rw [← her, ← hD]
            rw [her, hD] at HR
            have H4 := Lib.hid h4
            have K4 := Lib.hid (K3.out.trans k4)
            clear k4
            have HPR := Lib.hid hpr
            clear h4 her hD hpr
            by_cases e0 : er = 0
            · rw [if_pos e0] at HR
              subst e0
              go_wp2_with fail
              refine (syncQ H4.out ⟨#[101, 112, 111, 99, 104]⟩ (by decide)).mono ?_
              rintro e w5 ⟨rfl, h5, k5⟩
              have H5 := Lib.hid h5
              have K5 := Lib.hid (K4.out.trans k5)
              clear h5 k5
              obtain ⟨ev, hev⟩ : ∃ ev : Int, (if D.find ⟨#[101, 112, 111, 99, 104]⟩ = none then (6 : Int) else 0) = ev := ⟨_, rfl⟩
              rw [hev]
              have HR2 : Hid (d.raise n = (ev, D.sync ⟨#[101, 112, 111, 99, 104]⟩)) := Lib.hid (by rw [HR.out, ← hev]; rfl)
              clear hev
              go_wp2_with fail
              go_ret
              rw [HR2.out]
              exact ⟨rfl, H5.out, K5.out⟩
            · rw [if_neg e0] at HR
              have en : (er != 0) = true := by simpa using e0
              have HR2 : Hid (d.raise n = (er, D)) := Lib.hid (HR.out.trans HPR.out)
              clear HR e0
              go_wp2_with fail
              go_ret
              rw [HR2.out]
              exact ⟨rfl, H4.out, K4.out⟩
          | true =>
            have d5 : decide ((m : Int) ≤ 20) = false := by
              rw [decide_eq_false_iff_not]
              intro e
              exact G4.out ⟨rfl, by omega⟩
            go_wp2_with fail
            refine (writeQ H3.out ⟨#[101, 112, 111, 99, 104]⟩ f (by decide) hfs2).mono ?_
            rintro e w4 ⟨rfl, h4, k4⟩
            rw [show (⟨#[101, 112, 111, 99, 104]⟩ : ByteArray) = sMark from rfl] at h4 ⊢
            obtain ⟨er, her⟩ : ∃ ev : Int, (d.wr sMark f).1 = ev := ⟨_, rfl⟩
            obtain ⟨D, hD⟩ : ∃ ev : Dk, (d.wr sMark f).2 = ev := ⟨_, rfl⟩
            rw [hD] at h4
            rw [her]
            have hpr : (d.wr sMark f) = (er, D) := by rw [← her, ← hD]
            rw [her, hD] at HR
            have H4 := Lib.hid h4
            have K4 := Lib.hid (K3.out.trans k4)
            clear k4
            have HPR := Lib.hid hpr
            clear h4 her hD hpr
            by_cases e0 : er = 0
            · rw [if_pos e0] at HR
              subst e0
              go_wp2_with fail
              refine (syncQ H4.out ⟨#[101, 112, 111, 99, 104]⟩ (by decide)).mono ?_
              rintro e w5 ⟨rfl, h5, k5⟩
              have H5 := Lib.hid h5
              have K5 := Lib.hid (K4.out.trans k5)
              clear h5 k5
              obtain ⟨ev, hev⟩ : ∃ ev : Int, (if D.find ⟨#[101, 112, 111, 99, 104]⟩ = none then (6 : Int) else 0) = ev := ⟨_, rfl⟩
              rw [hev]
              have HR2 : Hid (d.raise n = (ev, D.sync ⟨#[101, 112, 111, 99, 104]⟩)) := Lib.hid (by rw [HR.out, ← hev]; rfl)
              clear hev
              go_wp2_with fail
              go_ret
              rw [HR2.out]
              exact ⟨rfl, H5.out, K5.out⟩
            · rw [if_neg e0] at HR
              have en : (er != 0) = true := by simpa using e0
              have HR2 : Hid (d.raise n = (er, D)) := Lib.hid (HR.out.trans HPR.out)
              clear HR e0
              go_wp2_with fail
              go_ret
              rw [HR2.out]
              exact ⟨rfl, H4.out, K4.out⟩
end Go.Proofs.YthdehdlbocgfaaaGreatDoor
