/- The manifest's epochs. Under the stated premises on sizes. -/
import Derived.Test.YthdehdlbocgfaaaDoorManA
import Derived.Test.YthdehdlbocgfaaaDoorFrmC
namespace Go.Proofs.YthdehdlbocgfaaaDoor
open Go.RowKit Go.Bl
attribute [local go_sem ↓] Go.wp_at_zero Go.wp_at_succ

/-- What rows of numbers say that rise: the last one, how many, whether that is all. -/
def epsF : Int → Nat → List (List UInt8) → Int × Nat × Bool
  | last, i, [] => (last, i, true)
  | last, i, p :: l => if (tkN p).2.2 = 0 ∧ (tkN p).2.1 = [] ∧ last < (tkN p).1 ∧ (tkN p).1 ≤ 274877906944 then epsF (tkN p).1 (i + 1) l else (last, i, false)
def Dk.mark (d : Dk) : List UInt8 := match d.find sMark with | none => [] | some f => Lb f.bytes
def epsS (s : List UInt8) : Int × Nat × Bool := ((epsF 0 0 (scanS crcU s).1).1, (epsF 0 0 (scanS crcU s).1).2.1, (epsF 0 0 (scanS crcU s).1).2.2 && decide ((scanS crcU s).2 = []))
theorem scanS_pay : ∀ (f : Nat) (s : List UInt8), s.length ≤ f → ∀ x ∈ (scanS crcU s).1, x.length ≤ 8000
  | f, s, hf => by
    by_cases e : (tkF crcU s).2.2 = 0
    · have hl := tkF_len crcU (tkF_eta crcU e)
      rw [scanS_cons crcU e]
      match f, hf with
      | 0, hf => omega
      | f + 1, hf =>
        intro x hx
        rcases List.mem_cons.1 hx with rfl | hx
        · exact hl.2.2
        · exact scanS_pay f (tkF crcU s).2.1 (by omega) x hx
    · rw [scanS_nil crcU e]
      intro x hx
      cases hx
theorem tkN_bd (s : List UInt8) : 0 ≤ (tkN s).1 ∧ (tkN s).1 ≤ 1099511627776 ∧ 0 ≤ (tkN s).2.2 ∧ (tkN s).2.2 ≤ 4 ∧ (tkN s).2.1.length ≤ s.length := by
  have := tkL_bd s 0 0 (by omega) (by decide)
  unfold tkN
  refine ⟨by show (0 : Int) ≤ ((tkL 0 0 s).1 : Int); omega, by show ((tkL 0 0 s).1 : Int) ≤ _; omega, this.2.2.1, this.2.2.2, ?_⟩
  show (if _ then _ else _ : List UInt8).length ≤ _
  split
  · simp
  · simp
theorem empty_of {l : List UInt8} : ((Bl l).toList != (⟨#[]⟩ : ByteArray).toList) = !decide (l = []) ∧ ((Bl l).toList.isEmpty = decide (l = [])) := by
  have h1 : (Bl l).toList = l := by rw [ByteArray.toList_eq]; rfl
  have h2 : (⟨#[]⟩ : ByteArray).toList = [] := by rw [ByteArray.toList_eq]
  rw [h1, h2]
  cases l <;> simp
set_option maxRecDepth 8000 in
set_option maxHeartbeats 2000000 in
theorem epochsQ {X : Nat → Prop} {w : World} {p : Nat} {d : Dk} (h : Qd X w p d) :
    Calls Tryd.prog 20 #[.pointer (some ⟨p, 0, none⟩)] w fun e w' => e = .returned (.tuple #[.int .i64 (epsS d.mark).1, .int .i64 (epsS d.mark).2.1, .bool (epsS d.mark).2.2]) ∧ Below w.heap.size w w' := by
  obtain ⟨s, er, hr, hm⟩ : ∃ (s : ByteArray) (er : Int), readV (d.find ⟨#[101, 112, 111, 99, 104]⟩) = .tuple #[.string s, .int .i64 er] ∧ Lb s = d.mark := by
    unfold Dk.mark
    rw [show sMark = ⟨#[101, 112, 111, 99, 104]⟩ from rfl]
    cases d.find ⟨#[101, 112, 111, 99, 104]⟩ with
    | none => exact ⟨_, _, rfl, rfl⟩
    | some f => exact ⟨_, _, rfl, rfl⟩
  have hsz : s.size ≤ 1073741824 := by
    have : d.mark.length ≤ 1073741824 := by
      unfold Dk.mark
      cases hf : d.find sMark with
      | none => simp
      | some f =>
        have h1 := total_mem (find_some hf).1
        have h2 := h.ok.used
        have h3 := h.ok.room2
        show (Lb f.bytes).length ≤ _
        rw [Lb_len]
        omega
    rw [← hm, Lb_len] at this
    exact this
  rw [← hm]
  have H := Lib.hid h
  have hsc := fun W => scan_any W s hsz
  obtain ⟨L, hL⟩ : ∃ L, L = (scanS crcU (Lb s)).1 := ⟨_, rfl⟩
  obtain ⟨R, hR⟩ : ∃ R, R = (scanS crcU (Lb s)).2 := ⟨_, rfl⟩
  have hlen := scanS_len crcU s.size (Lb s) (Nat.le_refl _)
  rw [← hL, ← hR] at hsc
  rw [← hL, ← hR, Lb_len] at hlen
  have HS : Hid (epsS (Lb s) = ((epsF 0 0 L).1, (epsF 0 0 L).2.1, (epsF 0 0 L).2.2 && decide (R = []))) := Lib.hid (by unfold epsS; rw [← hL, ← hR])
  have hR2 : ((s.size : Int) - (R.length : Int) == (s.size : Int)) = decide (R = []) := by
    by_cases e : R = []
    · subst e; simp
    · rw [decide_eq_false e, beq_eq_false_iff_ne]
      have := List.length_pos_iff.2 e
      omega
  have hLs : ∀ x ∈ L, x.length ≤ 8000 := by rw [hL]; exact scanS_pay s.size (Lb s) (Nat.le_refl _)
  have HC := Lib.hid hsc
  have HR2 := Lib.hid hR2
  have hLb : L.length ≤ 1073741824 := by omega
  have HRd := Lib.hid hr
  have HLs := Lib.hid hLs
  clear h hsc hL hR hm hsz hr hR2 hlen hLs
  go_enter Tryd.func20, Tryd.ntmps20
  go_wp2_with fail
  refine (readQ H.out ⟨#[101, 112, 111, 99, 104]⟩ (by decide)).mono ?_
  rintro e w1 ⟨rfl, rfl⟩
  rw [HRd.out]
  go_wp2_with fail
  refine (HC.out _).mono ?_
  rintro e w2 ⟨v, rfl, hSl, hB⟩
  have HSl := Lib.hid hSl
  obtain ⟨A, c, rfl, hA1, hA2⟩ := hSl.shape
  rw [List.length_map] at hA1
  have hlm : (L.map Bl).length = L.length := List.length_map _
  rw [hlm]
  unfold maxLen at hA2
  clear hSl hlm
  go_wp2_with fail
  go_loopw [9, 27] (fun n i wr => ∃ (k : Nat) (last : Int), k ≤ L.length ∧ 0 ≤ last ∧ last ≤ 274877906944 ∧ n = .int .i64 last ∧ i = .int .i64 k ∧ Below w2.heap.size w2 wr ∧ Hid (epsF 0 0 L = epsF last k (L.drop k))) (fun _ i _ => L.length - (intOf i).toNat)
  case atStart => exact ⟨0, 0, Nat.zero_le _, by omega, by omega, rfl, rfl, Below.refl _ _, Lib.hid rfl⟩
  case round =>
    obtain ⟨k, last, hk, hl0, hl1, rfl, rfl, hBr, hE⟩ := hrel
    have HBr := Lib.hid hBr
    clear hBr
    by_cases hlt : k < L.length
    · have d0 : decide ((k : Int) < (L.length : Int)) = true := by simp; omega
      obtain ⟨b, o, rfl, _, _, hxx⟩ := (HSl.out.fresh HBr.out).cell_ (by rw [List.length_map]; exact hlt)
      have x0 := hxx 0 _ rfl
      rw [List.getElem_map, Nat.mul_one, Nat.add_zero] at x0
      have hP8 := HLs.out L[k] (List.getElem_mem hlt)
      have hdrop : L.drop k = L[k] :: L.drop (k + 1) := List.drop_eq_getElem_cons hlt
      obtain ⟨P, hP⟩ : ∃ P, P = L[k] := ⟨_, rfl⟩
      rw [← hP] at x0 hP8 hdrop
      have hbd := tkN_bd P
      have hc := fun W => take_any W (Bl P) (by rw [Bl_size]; omega)
      rw [Lb_Bl] at hc
      have hE2 : Hid (epsF 0 0 L = if (tkN P).2.2 = 0 ∧ (tkN P).2.1 = [] ∧ last < (tkN P).1 ∧ (tkN P).1 ≤ 274877906944 then epsF (tkN P).1 (k + 1) (L.drop (k + 1)) else (last, k, false)) := Lib.hid (by rw [hE.out, hdrop]; rfl)
      obtain ⟨n, hn⟩ : ∃ P', P' = (tkN P).1 := ⟨_, rfl⟩
      obtain ⟨r, hr⟩ : ∃ P', P' = (tkN P).2.1 := ⟨_, rfl⟩
      obtain ⟨q, hq⟩ : ∃ P', P' = (tkN P).2.2 := ⟨_, rfl⟩
      rw [← hn, ← hr, ← hq] at hc hE2 hbd
      obtain ⟨hb1, hb2, hb3, hb4, hb5⟩ := hbd
      have hem := empty_of (l := r)
      have HC := Lib.hid hc
      clear hxx hdrop hP hn hr hq hc hE
      by_cases hg : q = 0 ∧ r = [] ∧ last < n ∧ n ≤ 274877906944
      · rw [if_pos hg] at hE2
        obtain ⟨g1, g2, g3, g4⟩ := hg
        rw [decide_eq_true g2] at hem
        have G1 : (q != 0) = false := by rw [g1]; rfl
        clear g1 g2
        go_wp2_with fail
        refine (HC.out _).mono ?_
        rintro e w3 ⟨rfl, hB3⟩
        have HB3 := Lib.hid (HBr.out.trans (hB3.mono HBr.out.size))
        clear hB3
        go_wp2_with fail
        go_roundw
        case rel => exact ⟨k + 1, n, by omega, by omega, by omega, rfl, by go_num, HB3.out, hE2⟩
        case measure => simp [intOf]; omega
      · rw [if_neg hg] at hE2
        have HG := Lib.hid hg
        have HR : Hid (epsS (Lb s) = (last, k, false)) := Lib.hid (by
          rw [HS.out, hE2.out]
          rfl)
        clear hg
        go_wp2_with fail
        refine (HC.out _).mono ?_
        rintro e w3 ⟨rfl, hB3⟩
        have HB3 := Lib.hid (HBr.out.trans (hB3.mono HBr.out.size))
        clear hB3
        go_wp2_with fail
        all_goals first
          | (exfalso; exact HG.out ⟨by assumption, by assumption, by assumption, by omega⟩)
          | (go_ret3; rw [HR.out]; exact ⟨rfl, hB.trans (HB3.out.mono hB.size)⟩)
    · have d0 : decide ((k : Int) < (L.length : Int)) = false := by simp; omega
      have hkl : k = L.length := by omega
      have HR : Hid (epsS (Lb s) = (last, L.length, decide (R = []))) := Lib.hid (by
        rw [HS.out, hE.out, List.drop_of_length_le (by omega), ← hkl]
        unfold epsF
        simp)
      have hR2 := HR2.out
      clear hkl
      go_wp2_with fail
      go_ret3
      rw [HR.out]
      exact ⟨rfl, hB.trans (HBr.out.mono hB.size)⟩
end Go.Proofs.YthdehdlbocgfaaaDoor
