/- IndexPlays: what the statement's function does: it answers true. -/
import Derived.Test.YtkckiijnooncdaaIdxY
import Derived.Test.YtkckiijnooncdaaIdxU
import Derived.Test.YtkckiijnooncdaaIdxT
namespace Go.Proofs.Ytkckiijnooncdaa
open Go.RowKit Go.Bl
attribute [local go_sem ↓] Go.wp_at_zero Go.wp_at_succ

def actO (a : Ac) : Obj := .cells (acc a).toArray 30
def PlaysRel (w : World) (px pm : Nat) (l : List Ac) (i : Value) (wr : World) : Prop :=
  ∃ (k : Nat) (X Y : Nat → Prop), k ≤ l.length ∧ i = .int .i64 k ∧ IdxAt wr px (addAll (l.take k)) X ∧ RefAt wr pm (addAll (l.take k)) Y ∧ (∀ b, X b → ¬ Y b) ∧ (∀ b, X b ∨ Y b → w.heap.size ≤ b) ∧ Below w.heap.size w wr
theorem RefAt.lt {w : World} {p : Nat} {L : List One} {F : Nat → Prop} (h : RefAt w p L F) : ∀ k, F k → k < w.heap.size := by
  obtain ⟨_, _, _, _, h⟩ := h; exact h
theorem RefAt.fp {w : World} {p : Nat} {L : List One} {F : Nat → Prop} (h : RefAt w p L F) : F p := by
  obtain ⟨_, _, _, h, _⟩ := h; exact h

section
variable (w5 : World) (px pm : Nat) (L : List One) (X Y : Nat → Prop) (hI : IdxAt w5 px L X) (hR : RefAt w5 pm L Y) (hL : L.length ≤ 1073741824) (s : ByteArray) (hs : s.size ≤ maxLen)
include hI hs in
theorem cVer (wz : World) (hz : Below w5.heap.size w5 wz) : Calls Try.prog 11 #[.pointer (some ⟨px, 0, none⟩), .string s] wz fun e w' => e = .returned (.int .i64 (ofS L s).length) ∧ Below wz.heap.size wz w' :=
  (version_any wz px L X (hI.fresh hz) s hs).mono fun _ _ ⟨a, b⟩ => ⟨a, by rw [← b]; exact Below.refl _ _⟩
include hR hL in
theorem cRVer (wz : World) (hz : Below w5.heap.size w5 wz) : Calls Try.prog 19 #[.pointer (some ⟨pm, 0, none⟩), .string s] wz fun e w' => e = .returned (.int .i64 (ofS L s).length) ∧ Below wz.heap.size wz w' :=
  (rversion_any wz pm L Y (hR.fresh hz) s hL).mono fun _ _ ⟨a, b⟩ => ⟨a, by rw [← b]; exact Below.refl _ _⟩
include hI in
theorem cEvs (wz : World) (hz : Below w5.heap.size w5 wz) : Calls Try.prog 15 #[.pointer (some ⟨px, 0, none⟩)] wz fun e w' => e = .returned (.int .i64 L.length) ∧ Below wz.heap.size wz w' :=
  (events_any wz px L X (hI.fresh hz)).mono fun _ _ ⟨a, b⟩ => ⟨a, by rw [← b]; exact Below.refl _ _⟩
include hI hL in
theorem cNames (wz : World) (hz : Below w5.heap.size w5 wz) : Calls Try.prog 16 #[.pointer (some ⟨px, 0, none⟩)] wz fun e w' => ∃ v, e = .returned v ∧ Below wz.heap.size wz w' ∧ Sl w' (fun _ => True) 1 strc v (namesOf L) :=
  (names_any wz px L X (hI.fresh hz) hL).mono fun _ _ ⟨v, ks, a, b, c, d⟩ => by
    obtain ⟨h1, h2⟩ := namesOf_spec L
    have : ks = namesOf L := rising_ext b.1 h1 (fun s => by rw [b.2, h2])
    subst this
    exact ⟨v, a, c, d.mono fun _ _ _ => trivial⟩
include hR hL in
theorem cRNames (wz : World) (hz : Below w5.heap.size w5 wz) : Calls Try.prog 21 #[.pointer (some ⟨pm, 0, none⟩)] wz fun e w' => ∃ v, e = .returned v ∧ Below wz.heap.size wz w' ∧ Sl w' (fun _ => True) 1 strc v (namesOf L) :=
  (rnames_any wz pm L Y (hR.fresh hz) hL).mono fun _ _ ⟨v, a, c, d⟩ => ⟨v, a, c, d.mono fun _ _ _ => trivial⟩
include hI hs hL in
theorem cRange (fr most : Int) (wz : World) (hz : Below w5.heap.size w5 wz) : Calls Try.prog 12 #[.pointer (some ⟨px, 0, none⟩), .string s, .int .i64 fr, .int .i64 most] wz fun e w' => ∃ v, e = .returned v ∧ Below wz.heap.size wz w' ∧ Sl w' (fun _ => True) 2 evc v (rangeOf (ofS L s) fr most) :=
  (range_any wz px L X (hI.fresh hz) s hs fr most hL).mono fun _ _ ⟨v, a, c, d⟩ => ⟨v, a, c, d.mono fun _ _ _ => trivial⟩
include hR hL in
theorem cRRange (fr most : Int) (wz : World) (hz : Below w5.heap.size w5 wz) : Calls Try.prog 22 #[.pointer (some ⟨pm, 0, none⟩), .string s, .int .i64 fr, .int .i64 most] wz fun e w' => ∃ v, e = .returned v ∧ Below wz.heap.size wz w' ∧ Sl w' (fun _ => True) 2 evc v (rangeOf (ofS L s) fr most) :=
  (rrange_any wz pm L Y (hR.fresh hz) s fr most hL).mono fun _ _ ⟨v, a, c, d⟩ => ⟨v, a, c, d.mono fun _ _ _ => trivial⟩
include hI hs hL in
theorem cPos (n : Int) (wz : World) (hz : Below w5.heap.size w5 wz) : Calls Try.prog 14 #[.pointer (some ⟨px, 0, none⟩), .string s, .int .i64 n] wz fun e w' => e = .returned (.int .i64 (posOf (ofS L s) n)) ∧ Below wz.heap.size wz w' :=
  (pos_any wz px L X (hI.fresh hz) s hs n hL).mono fun _ _ ⟨a, b⟩ => ⟨a, by rw [← b]; exact Below.refl _ _⟩
include hR hL in
theorem cRPos (n : Int) (wz : World) (hz : Below w5.heap.size w5 wz) : Calls Try.prog 23 #[.pointer (some ⟨pm, 0, none⟩), .string s, .int .i64 n] wz fun e w' => e = .returned (.int .i64 (posOf (ofS L s) n)) ∧ Below wz.heap.size wz w' :=
  (rpos_any wz pm L Y (hR.fresh hz) s n hL).mono fun _ _ ⟨a, b⟩ => ⟨a, by rw [← b]; exact Below.refl _ _⟩
end

set_option maxRecDepth 4000 in
set_option maxHeartbeats 8000000 in
theorem plays_any (w : World) (G : Nat → Prop) (v : Value) (l : List Ac) (h : Acts w G v l) (hG : ∀ k, G k → k < w.heap.size) :
    Calls Try.prog 6 #[v] w fun e w' => e = .returned (.bool true) ∧ Below w.heap.size w w' := by
  obtain ⟨A, c, rfl, hA1, hA2⟩ := h.1.shape
  unfold maxLen at hA2
  have HA := Lib.hid h
  clear h
  go_enter Try.func6, Try.ntmps6
  go_wp2_with fail
  refine (shown_any w).mono ?_
  rintro e w1 ⟨rfl, hB1⟩
  have HB1 := Lib.hid hB1
  have HA1 := Lib.hid (HA.out.keep (Keeps.of_fresh hB1 (fun k => w.heap.size ≤ k)) (fun k hk _ hx => by omega))
  clear hB1
  go_wp2_with fail
  refine (small_any w1 G _ l HA1.out).mono ?_
  rintro e w2 ⟨rfl, q, rfl⟩
  go_wp2_with fail
  refine (new_any (w1.drewN q)).mono ?_
  rintro e w2 ⟨rfl, hI2, hB2⟩
  have hB2 := HB1.out.trans (Below.mono ((⟨rfl, rfl, rfl, Nat.le_refl _, fun _ _ => rfl⟩ : Below (w1.drewN q).heap.size w1 (w1.drewN q)).trans hB2) HB1.out.size)
  have hw1 : w.heap.size ≤ (w1.drewN q).heap.size := HB1.out.size
  obtain ⟨px, hpx⟩ : ∃ px, (w1.drewN q).heap.size + 1 = px := ⟨_, rfl⟩
  rw [hpx] at hI2 ⊢
  have hI2 := hI2.mono (F' := fun k => w.heap.size ≤ k ∧ k < w2.heap.size) (fun k hk => ⟨by omega, hk.2⟩) (fun k hk => hk.2)
  have HI2 := Lib.hid hI2
  have HB2 := Lib.hid hB2
  clear hI2 hB2 hpx hw1
  cases hsm : smallB l
  · go_wp2_with fail
    go_ret
    exact ⟨rfl, HB2.out⟩
  · have HSM := Lib.hid hsm
    have h60 : l.length ≤ 60 ∧ l.all acOk = true := by simpa [smallB] using HSM.out
    have H60 := Lib.hid h60
    clear h60
    go_wp2_with fail
    have hWa : Below w2.heap.size w2 (w2.alloc (.cells #[.slice none 0 0] 45)) := (Below.refl _ w2).alloc (Nat.le_refl _) _
    have hM : RefAt (w2.alloc (.cells #[.slice none 0 0] 45)) w2.heap.size [] (fun k => k = w2.heap.size) := ⟨_, heap_alloc_new w2 _, Sl.nil_ _ _ _ _, rfl, fun k hk => by rw [hk]; simp⟩
    have HM := Lib.hid hM
    have HI3 := Lib.hid (HI2.out.fresh hWa)
    have HB3 := Lib.hid (HB2.out.trans (hWa.mono HB2.out.size))
    have hsz := HB2.out.size
    have hI2l := HI2.out.lt
    clear hM hWa
    obtain ⟨pm, hpm⟩ : ∃ pm, w2.heap.size = pm := ⟨_, rfl⟩
    generalize w2.alloc (.cells #[.slice none 0 0] 45) = w3 at HM HI3 HB3 ⊢
    rw [hpm] at HM HI3 hsz ⊢
    go_loopw [7] (fun i wr => PlaysRel w px pm l i wr) (fun i _ => l.length - (intOf i).toNat)
    case atStart => exact ⟨0, _, _, Nat.zero_le _, rfl, HI3.out, HM.out, fun b hb e => by omega, fun b hb => by rcases hb with hb | hb <;> omega, HB3.out⟩
    case round =>
      obtain ⟨k, X, Y, hk, rfl, hI, hR, hXY, hge, hB⟩ := hrel
      have HI := Lib.hid hI
      have HR := Lib.hid hR
      have HXY := Lib.hid hXY
      have HGE := Lib.hid hge
      have HB := Lib.hid hB
      clear hI hR hXY hge hB HI3 HM HB3 HI2 HB2 hI2l
      by_cases hlt : k < l.length
      · have hAr := HA.out.keep (Keeps.of_below HB.out) (fun k hk _ hx => by omega)
        obtain ⟨b, o, rfl, hGb, hbl, hxx⟩ := hAr.1.cell_ hlt
        obtain ⟨hev, hst, _⟩ := hAr.2 l[k] (List.getElem_mem hlt)
        obtain ⟨B, d, hevv, hB1, hB2⟩ := hev.shape
        have x0 := hxx 0 _ rfl
        have x1 := hxx 1 _ rfl
        have x2 := hxx 2 _ rfl
        have x3 := hxx 3 _ rfl
        have x4 := hxx 4 _ rfl
        have HV := Lib.hid hev
        have HAr := Lib.hid hAr
        rw [hevv] at x4
        simp only [Nat.add_zero] at x0
        clear hxx hev hAr
        have hbw : b < w.heap.size := hG b hGb
        have hww : w.heap.size ≤ wr.heap.size := HB.out.size
        have hpmw := HR.out.lt pm HR.out.fp
        have HXL := Lib.hid HI.out.lt
        have HYL := Lib.hid HR.out.lt
        have HYP := Lib.hid HR.out.fp
        have HL0 : Hid ((addAll (l.take k)).length ≤ 1200 ∧ l[k].evs.length ≤ 20 ∧ l[k].stream.size ≤ 300) := Lib.hid (by
          obtain ⟨q1, q2⟩ := H60.out
          have q3 := addAll_le (l.take k) (by rw [List.all_eq_true] at q2 ⊢; exact fun a ha => q2 a (List.mem_of_mem_take ha))
          have q4 : acOk l[k] = true := by rw [List.all_eq_true] at q2; exact q2 _ (List.getElem_mem hlt)
          simp only [acOk, Bool.and_eq_true, decide_eq_true_eq] at q4
          rw [List.length_take] at q3
          exact ⟨by omega, q4.1.2, q4.1.1⟩)
        have HT0 : Hid (addAll (l.take (k + 1)) = addAll (l.take k) ++ l[k].evs.map (mkOne l[k].stream l[k].pos)) := Lib.hid (by rw [List.take_succ_eq_append_getElem hlt, addAll_snoc])
        obtain ⟨L, hLe⟩ : ∃ L, addAll (l.take k) = L := ⟨_, rfl⟩
        rw [hLe] at HL0 HT0 HI HR
        have hs300 : l[k].stream.size ≤ maxLen := by have := HL0.out; unfold maxLen; omega
        obtain ⟨q1200, q20, _⟩ := HL0.out
        clear hLe HL0 hst HA1 HAr
        go_upto_region 11 with (fail)
        have hWb : Below wr.heap.size wr (wr.alloc (.cells #[.int .i64 l[k].pos, .int .i64 l[k].fr, .int .i64 l[k].most, .string l[k].stream, .slice B l[k].evs.length d] 30)) := (Below.refl _ wr).alloc (Nat.le_refl _) _
        have hblk := heap_alloc_new wr (.cells #[.int .i64 l[k].pos, .int .i64 l[k].fr, .int .i64 l[k].most, .string l[k].stream, .slice B l[k].evs.length d] 30)
        have hsz4 := World.size_alloc wr (.cells #[.int .i64 l[k].pos, .int .i64 l[k].fr, .int .i64 l[k].most, .string l[k].stream, .slice B l[k].evs.length d] 30)
        generalize wr.alloc (.cells #[.int .i64 l[k].pos, .int .i64 l[k].fr, .int .i64 l[k].most, .string l[k].stream, .slice B l[k].evs.length d] 30) = w4 at hWb hblk hsz4 ⊢
        have HI4 := Lib.hid (HI.out.fresh hWb)
        have HR4 := Lib.hid (HR.out.fresh hWb)
        have HV4 := Lib.hid (HV.out.fresh hWb)
        have HB4 := Lib.hid (HB.out.trans (hWb.mono HB.out.size))
        obtain ⟨gA, hgA⟩ : ∃ gA, wr.heap.size = gA := ⟨_, rfl⟩
        have HXA : Hid (∀ q, X q → q < gA) := Lib.hid (by rw [← hgA]; exact HXL.out)
        have HYA : Hid (∀ q, Y q → q < gA) := Lib.hid (by rw [← hgA]; exact HYL.out)
        rw [hgA] at hblk hsz4 hww hpmw hbl ⊢
        have hgA4 : gA < w4.heap.size := by omega
        clear hWb HI HR HB HXL HYL x0 x1 x2 x3 x4 HV hgA hsz4
        rw [hevv] at HV4
        go_wp2_with fail
        refine (clone_any w4 px L X HI4.out (by omega)).mono ?_
        rintro e w5 ⟨rfl, hB5, hC5⟩
        have hblk5 := (Keeps.of_fresh hB5 (fun _ => False)).grownTo hblk id
        have a0 : w5.cell? ⟨gA, 0, none⟩ = some (.int .i64 l[k].pos) := cell_of_row w5 _ 0 _ _ _ hblk5
        have a3 : w5.cell? ⟨gA, 3, none⟩ = some (.string l[k].stream) := cell_of_row w5 _ 3 _ _ _ hblk5
        have hsz5 := hB5.size
        have HB5 := Lib.hid hB5
        have HC5 := Lib.hid hC5
        have HK5 := Lib.hid hblk5
        clear hB5 hC5 hblk hblk5
        go_wp2_with fail
        have hev5 : Sl (w5.alloc (.cells #[.string ⟨#[111, 116, 104, 101, 114]⟩, .string ⟨#[]⟩] 41)) (fun b => b = w5.heap.size) 2 evc (.slice (some ⟨w5.heap.size, 0, none⟩) 1 1) [⟨⟨#[111, 116, 104, 101, 114]⟩, ⟨#[]⟩⟩] := Sl.single (heap_alloc_new w5 _) rfl
        have hc5 := add_any (w5.alloc (.cells #[.string ⟨#[111, 116, 104, 101, 114]⟩, .string ⟨#[]⟩] 41)) (w4.heap.size + 1) L (fun q => w4.heap.size ≤ q ∧ q < w5.heap.size) (fun b => b = w5.heap.size) (HC5.out.fresh ((Below.refl _ w5).alloc (Nat.le_refl _) _)) l[k].pos l[k].stream _ _
          hev5 (fun q hq hx => by omega) hs300 (by simp; omega)
        refine hc5.mono ?_
        clear hc5 hev5
        rintro e w6 ⟨rfl, hK6, -⟩
        have hB6 : Below w4.heap.size w4 w6 := Below.keep (HB5.out.alloc hsz5 _) hK6 (by simp; omega) (fun q hq => hq.1)
        have hsz6 := hB6.size
        have hblk6 := (((Keeps.refl (fun _ => False) w5).alloc _).grownTo HK5.out id) |> fun h => hK6.grownTo h (fun hx => by omega)
        have a0 : w6.cell? ⟨gA, 0, none⟩ = some (.int .i64 l[k].pos) := cell_of_row w6 _ 0 _ _ _ hblk6
        have a3 : w6.cell? ⟨gA, 3, none⟩ = some (.string l[k].stream) := cell_of_row w6 _ 3 _ _ _ hblk6
        have a4 : w6.cell? ⟨gA, 4, none⟩ = some (.slice B l[k].evs.length d) := cell_of_row w6 _ 4 _ _ _ hblk6
        have HI6 := Lib.hid (HI4.out.fresh hB6)
        have HR6 := Lib.hid (HR4.out.fresh hB6)
        have HV6 := Lib.hid (HV4.out.fresh hB6)
        have HB6 := Lib.hid (HB4.out.trans (hB6.mono HB4.out.size))
        have HK6 := Lib.hid hblk6
        clear hB6 hK6 hblk6 HK5 HC5 HB5 HI4 HR4 HV4 HB4
        go_wp2_with fail
        have hc6 := add_any w6 px L X G HI6.out l[k].pos l[k].stream _ l[k].evs HV6.out (fun q hq hx => by have := hG q hq; have := HGE.out q (.inl hx); omega) hs300 (by omega)
        refine hc6.mono ?_
        clear hc6
        rintro e w7 ⟨rfl, hK7, hI7⟩
        have hblk7 := hK7.grownTo HK6.out (fun hx => by have := HXA.out gA hx; omega)
        have a0 : w7.cell? ⟨gA, 0, none⟩ = some (.int .i64 l[k].pos) := cell_of_row w7 _ 0 _ _ _ hblk7
        have a3 : w7.cell? ⟨gA, 3, none⟩ = some (.string l[k].stream) := cell_of_row w7 _ 3 _ _ _ hblk7
        have a4 : w7.cell? ⟨gA, 4, none⟩ = some (.slice B l[k].evs.length d) := cell_of_row w7 _ 4 _ _ _ hblk7
        have HR7 := Lib.hid (HR6.out.keep hK7 (fun q hq hx => HXY.out q hx hq))
        have HV7 := Lib.hid (HV6.out.keep hK7 (fun q _ hq hx => by have := hG q hq; have := HGE.out q (.inl hx); omega))
        have HB7 := Lib.hid (Below.keep HB6.out hK7 HB6.out.size (fun q hq => HGE.out q (.inl hq)))
        have HI7 := Lib.hid hI7
        have HK7 := Lib.hid hblk7
        have hsz7 := hK7.size
        clear hK7 hI7 hblk7 HK6 HI6 HR6 HV6 HB6
        go_wp2_with fail
        have hc7 := radd_any w7 pm L Y G HR7.out l[k].pos l[k].stream _ l[k].evs HV7.out (by omega)
        refine hc7.mono ?_
        clear hc7
        rintro e w8 ⟨rfl, hK8, hR8⟩
        have hblk8 := hK8.grownTo HK7.out (fun hx => by omega)
        have hI8 := HI7.out.keep hK8 (fun q hq hx => by
          subst hx
          rcases hq with hq | hq
          · exact HXY.out _ hq HYP.out
          · omega)
        have hB8 := Below.keep HB7.out hK8 HB7.out.size (fun q hq => by subst hq; exact HGE.out _ (.inr HYP.out))
        have hsz8 := hK8.size
        have HI8 := Lib.hid hI8
        have HR8 := Lib.hid hR8
        have HK8 := Lib.hid hblk8
        have HB8 := Lib.hid hB8
        clear hK8 hR8 hI8 hblk8 hB8 HK7 HI7 HR7 HV7 HB7
        have hLl : (L ++ l[k].evs.map (mkOne l[k].stream l[k].pos)).length ≤ 1073741824 := by rw [List.length_append, List.length_map]; omega
        have hLl3 := hLl
        obtain ⟨NN, hNN⟩ : ∃ NN, (ofS L l[k].stream).length = NN := ⟨_, rfl⟩
        rw [hNN]
        obtain ⟨L', hL'⟩ : ∃ L', L ++ l[k].evs.map (mkOne l[k].stream l[k].pos) = L' := ⟨_, rfl⟩
        rw [hL'] at HI8 HR8 HT0 hLl
        go_upto_region 17 with (fail)
        go_cut [104] (fun s104 wx => s104 = .bool false ∧ Below w8.heap.size w8 wx)
        case first =>
          obtain ⟨vr, hr1, hr2, _, _⟩ := HR8.out
          obtain ⟨Ar, cr, rfl, _, _⟩ := hr2.shape
          have m8 : w8.cell? ⟨pm, 0, none⟩ = some (.slice Ar L'.length cr) := cell_of_row w8 _ 0 _ _ _ hr1
          have a8 : w8.cell? ⟨gA, 3, none⟩ = some (.string l[k].stream) := cell_of_row w8 _ 3 _ _ _ HK8.out
          have lM8 : pm < w8.heap.size := HR8.out.lt pm HR8.out.fp
          have lA8 : gA < w8.heap.size := by omega
          have S1 := Lib.hid (cVer w8 px L' _ HI8.out l[k].stream hs300)
          have S2 := Lib.hid (cRVer w8 pm L' _ HR8.out hLl l[k].stream)
          have S3 := Lib.hid (cEvs w8 px L' _ HI8.out)
          have S4 := Lib.hid (cNames w8 px L' _ HI8.out hLl)
          have S5 := Lib.hid (cRNames w8 pm L' _ HR8.out hLl)
          have hWd : Below w8.heap.size w8 w8.drew := ⟨rfl, rfl, rfl, Nat.le_refl _, fun _ _ => rfl⟩
          have HBW8 := Lib.hid (Below.refl w8.heap.size w8)
          clear hr1 hr2 HI8 HR8 HK8 HB8 HA hevv a0 a3 a4 hLl hLl3 HT0 hL' HYP HXA HYA HGE HXY
          go_wp2_with fail
          go_region_held3 (fun z => z.cell? ⟨gA, 3, none⟩ = some (.string l[k].stream) ∧ z.cell? ⟨pm, 0, none⟩ = some (.slice Ar L'.length cr))
            (first | exact ⟨a14, m14⟩ | exact ⟨a13, m13⟩ | exact ⟨a12, m12⟩ | exact ⟨a11, m11⟩ | exact ⟨a10, m10⟩ | exact ⟨a9, m9⟩ | exact ⟨a8, m8⟩)
            (first
              | (go_at_call 11
                 refine (S1.out w8.drew hWd).mono ?_
                 rintro e w9 ⟨rfl, hB9'⟩
                 have hB9 := hWd.trans hB9'
                 have lA9 := Nat.lt_of_lt_of_le lA8 hB9.size
                 have lM9 := Nat.lt_of_lt_of_le lM8 hB9.size
                 have a9 := (hB9.cell (p := ⟨gA, 3, none⟩) lA8).trans a8
                 have m9 := (hB9.cell (p := ⟨pm, 0, none⟩) lM8).trans m8
                 have HBW9 := Lib.hid (HBW8.out.trans (hB9.mono HBW8.out.size))
                 clear hB9')
              | (go_at_call 19
                 refine (S2.out w9 HBW9.out).mono ?_
                 rintro e w10 ⟨rfl, hB10⟩
                 have lA10 := Nat.lt_of_lt_of_le lA9 hB10.size
                 have lM10 := Nat.lt_of_lt_of_le lM9 hB10.size
                 have a10 := (hB10.cell (p := ⟨gA, 3, none⟩) lA9).trans a9
                 have m10 := (hB10.cell (p := ⟨pm, 0, none⟩) lM9).trans m9
                 have HBW10 := Lib.hid (HBW9.out.trans (hB10.mono HBW9.out.size))
                 )
              | (go_at_call 15
                 refine (S3.out w10 HBW10.out).mono ?_
                 rintro e w11 ⟨rfl, hB11⟩
                 have lA11 := Nat.lt_of_lt_of_le lA10 hB11.size
                 have lM11 := Nat.lt_of_lt_of_le lM10 hB11.size
                 have a11 := (hB11.cell (p := ⟨gA, 3, none⟩) lA10).trans a10
                 have m11 := (hB11.cell (p := ⟨pm, 0, none⟩) lM10).trans m10
                 have HBW11 := Lib.hid (HBW10.out.trans (hB11.mono HBW10.out.size))
                 )
              | (go_at_call 16
                 refine (S4.out w11 HBW11.out).mono ?_
                 rintro e w12 ⟨v12, rfl, hB12, hS12⟩
                 obtain ⟨A12, c12, rfl, _, _⟩ := hS12.shape
                 have lA12 := Nat.lt_of_lt_of_le lA11 hB12.size
                 have lM12 := Nat.lt_of_lt_of_le lM11 hB12.size
                 have a12 := (hB12.cell (p := ⟨gA, 3, none⟩) lA11).trans a11
                 have m12 := (hB12.cell (p := ⟨pm, 0, none⟩) lM11).trans m11
                 have HBW12 := Lib.hid (HBW11.out.trans (hB12.mono HBW11.out.size))
                 )
              | (go_at_call 21
                 refine (S5.out w12 HBW12.out).mono ?_
                 rintro e w13 ⟨v13, rfl, hB13, hS13⟩
                 obtain ⟨A13, c13, rfl, _, _⟩ := hS13.shape
                 have lA13 := Nat.lt_of_lt_of_le lA12 hB13.size
                 have lM13 := Nat.lt_of_lt_of_le lM12 hB13.size
                 have a13 := (hB13.cell (p := ⟨gA, 3, none⟩) lA12).trans a12
                 have m13 := (hB13.cell (p := ⟨pm, 0, none⟩) lM12).trans m12
                 have HBW13 := Lib.hid (HBW12.out.trans (hB13.mono HBW12.out.size))
                 )
              | (go_at_call 20
                 refine (sameT_any w13 _ _ _ _ _ _ (hS12.fresh hB13) hS13).mono ?_
                 rintro e w14 ⟨rfl, nq, rfl⟩
                 have hdd : decide (namesOf L' = namesOf L') = true := decide_eq_true rfl
                 rw [hdd]
                 have hB14 : Below w13.heap.size w13 (w13.drewN nq) := ⟨rfl, rfl, rfl, Nat.le_refl _, fun _ _ => rfl⟩
                 have lA14 := Nat.lt_of_lt_of_le lA13 hB14.size
                 have lM14 := Nat.lt_of_lt_of_le lM13 hB14.size
                 have a14 := (hB14.cell (p := ⟨gA, 3, none⟩) lA13).trans a13
                 have m14 := (hB14.cell (p := ⟨pm, 0, none⟩) lM13).trans m13
                 have HBW14 := Lib.hid (HBW13.out.trans (hB14.mono HBW13.out.size))
                 ))
          all_goals go_wp2_with fail
          all_goals go_meet
          all_goals exact ⟨rfl, HBW14.out⟩
        case rest =>
          obtain ⟨rfl, hB9⟩ := hcut
          obtain ⟨w9, hw9⟩ : ∃ w9, w9 = wc := ⟨_, rfl⟩
          subst hw9
          have HI9 := Lib.hid (HI8.out.fresh hB9)
          have HR9 := Lib.hid (HR8.out.fresh hB9)
          have HK9 := Lib.hid ((Keeps.of_fresh hB9 (fun _ => False)).grownTo HK8.out id)
          have HB9 := Lib.hid (HB8.out.trans (hB9.mono HB8.out.size))
          have hsz9 := hB9.size
          clear hB9 HI8 HR8 HK8 HB8 a0 a3 a4
          go_wp2_with fail
          go_loopw [12] (fun i wx => ∃ j : Nat, j ≤ k + 1 ∧ i = .int .i64 j ∧ Below w9.heap.size w9 wx) (fun i _ => k + 1 - (intOf i).toNat)
          case atStart => exact ⟨0, Nat.zero_le _, rfl, Below.refl _ _⟩
          case round =>
            obtain ⟨j, hj, rfl, hBq⟩ := hrel
            obtain ⟨wv, hwv⟩ : ∃ wv, wv = wr := ⟨_, rfl⟩
            subst hwv
            have HIv := Lib.hid (HI9.out.fresh hBq)
            have HRv := Lib.hid (HR9.out.fresh hBq)
            have HBv := Lib.hid (HB9.out.trans (hBq.mono HB9.out.size))
            have hblkv := (Keeps.of_fresh hBq (fun _ => False)).grownTo HK9.out id
            have a8 : wv.cell? ⟨gA, 1, none⟩ = some (.int .i64 l[k].fr) := cell_of_row wv _ 1 _ _ _ hblkv
            have m8 : wv.cell? ⟨gA, 2, none⟩ = some (.int .i64 l[k].most) := cell_of_row wv _ 2 _ _ _ hblkv
            have lA8 : gA < wv.heap.size := (Array.getElem?_eq_some_iff.1 hblkv).1
            have HBq := Lib.hid hBq
            clear hBq hblkv
            by_cases hjk : j ≤ k
            · have hjl : j < l.length := by omega
              have dj : decide ((j : Int) ≤ (k : Int)) = true := by simp; omega
              have x3 := (HA.out.1.keep (Keeps.of_below HBv.out) (fun q hq _ hx => by omega)).cell_ hjl
              obtain ⟨b8, o8, he8, _, _, hx8⟩ := x3
              injection he8 with he8
              injection he8 with he8 he9
              subst he8 he9
              have x3 := hx8 3 _ rfl
              clear hx8
              have hs8 : l[j].stream.size ≤ maxLen := by
                obtain ⟨q1, q2⟩ := H60.out
                have q4 : acOk l[j] = true := by rw [List.all_eq_true] at q2; exact q2 _ (List.getElem_mem hjl)
                simp only [acOk, Bool.and_eq_true, decide_eq_true_eq] at q4
                unfold maxLen; omega
              have S1 := Lib.hid (cRange wv px L' _ HIv.out hLl l[j].stream hs8 l[k].fr l[k].most)
              have S2 := Lib.hid (cRRange wv pm L' _ HRv.out hLl l[j].stream l[k].fr l[k].most)
              have S3 := Lib.hid (cPos wv px L' _ HIv.out hLl l[j].stream hs8 l[k].fr)
              have S4 := Lib.hid (cRPos wv pm L' _ HRv.out hLl l[j].stream l[k].fr)
              have hWd : Below wv.heap.size wv wv.drew := ⟨rfl, rfl, rfl, Nat.le_refl _, fun _ _ => rfl⟩
              have HBW8 := Lib.hid (Below.refl wv.heap.size wv)
              have tpp : (posOf (ofS L' l[j].stream) l[k].fr != posOf (ofS L' l[j].stream) l[k].fr) = false := by simp
              clear HA hevv HYP HXA HYA HGE HXY HIv HRv HI9 HR9
              go_wp2_with fail
              go_region_held3 (fun z => z.cell? ⟨gA, 1, none⟩ = some (.int .i64 l[k].fr) ∧ z.cell? ⟨gA, 2, none⟩ = some (.int .i64 l[k].most))
                (first | exact ⟨a13, m13⟩ | exact ⟨a12, m12⟩ | exact ⟨a11, m11⟩ | exact ⟨a10, m10⟩ | exact ⟨a9, m9⟩ | exact ⟨a8, m8⟩)
                (first
                  | (go_at_call 12
                     refine (S1.out wv.drew hWd).mono ?_
                     rintro e w10 ⟨v10, rfl, hB10', hS10⟩
                     obtain ⟨A10, c10, rfl, _, _⟩ := hS10.shape
                     have hB10 := hWd.trans hB10'
                     have lA9 := Nat.lt_of_lt_of_le lA8 hB10.size
                     have a9 := (hB10.cell (p := ⟨gA, 1, none⟩) lA8).trans a8
                     have m9 := (hB10.cell (p := ⟨gA, 2, none⟩) lA8).trans m8
                     have HBW9 := Lib.hid (HBW8.out.trans (hB10.mono HBW8.out.size))
                     clear hB10')
                  | (go_at_call 22
                     refine (S2.out w10 HBW9.out).mono ?_
                     rintro e w11 ⟨v11, rfl, hB11, hS11⟩
                     obtain ⟨A11, c11, rfl, _, _⟩ := hS11.shape
                     have lA10 := Nat.lt_of_lt_of_le lA9 hB11.size
                     have a10 := (hB11.cell (p := ⟨gA, 1, none⟩) lA9).trans a9
                     have m10 := (hB11.cell (p := ⟨gA, 2, none⟩) lA9).trans m9
                     have HBW10 := Lib.hid (HBW9.out.trans (hB11.mono HBW9.out.size))
                     )
                  | (go_at_call 13
                     refine (same_any w11 _ _ _ _ _ _ (hS10.fresh hB11) hS11).mono ?_
                     rintro e w12 ⟨rfl, nq, rfl⟩
                     have hdd : decide (rangeOf (ofS L' l[j].stream) l[k].fr l[k].most = rangeOf (ofS L' l[j].stream) l[k].fr l[k].most) = true := decide_eq_true rfl
                     rw [hdd]
                     have hB12 : Below w11.heap.size w11 (w11.drewN nq) := ⟨rfl, rfl, rfl, Nat.le_refl _, fun _ _ => rfl⟩
                     have lA11 := Nat.lt_of_lt_of_le lA10 hB12.size
                     have a11 := (hB12.cell (p := ⟨gA, 1, none⟩) lA10).trans a10
                     have m11 := (hB12.cell (p := ⟨gA, 2, none⟩) lA10).trans m10
                     have HBW11 := Lib.hid (HBW10.out.trans (hB12.mono HBW10.out.size))
                     )
                  | (go_at_call 14
                     refine (S3.out (w11.drewN nq) HBW11.out).mono ?_
                     rintro e w13 ⟨rfl, hB13⟩
                     have lA12 := Nat.lt_of_lt_of_le lA11 hB13.size
                     have a12 := (hB13.cell (p := ⟨gA, 1, none⟩) lA11).trans a11
                     have m12 := (hB13.cell (p := ⟨gA, 2, none⟩) lA11).trans m11
                     have HBW12 := Lib.hid (HBW11.out.trans (hB13.mono HBW11.out.size))
                     )
                  | (go_at_call 23
                     refine (S4.out w13 HBW12.out).mono ?_
                     rintro e w14 ⟨rfl, hB14⟩
                     have lA13 := Nat.lt_of_lt_of_le lA12 hB14.size
                     have a13 := (hB14.cell (p := ⟨gA, 1, none⟩) lA12).trans a12
                     have m13 := (hB14.cell (p := ⟨gA, 2, none⟩) lA12).trans m12
                     have HBW13 := Lib.hid (HBW12.out.trans (hB14.mono HBW12.out.size))
                     ))
              all_goals go_wp2_with fail
              all_goals go_roundw
              all_goals first | exact ⟨j + 1, by omega, by go_num, HBq.out.trans (HBW13.out.mono HBq.out.size)⟩ | (simp [intOf]; omega)
            · have dj : decide ((j : Int) ≤ (k : Int)) = false := by simp; omega
              go_wp2_with fail
              go_roundw
              case rel =>
                refine ⟨k + 1, fun q => X q ∨ (w6.heap.size ≤ q ∧ q < w7.heap.size), fun q => Y q ∨ (w7.heap.size ≤ q ∧ q < w8.heap.size), hlt, by go_num, by rw [HT0.out]; exact HIv.out, by rw [HT0.out]; exact HRv.out, fun q hx hy => ?_, fun q hq => ?_, HBv.out⟩
                · rcases hx with hx | hx <;> rcases hy with hy | hy
                  · exact HXY.out q hx hy
                  · have := HXA.out q hx; omega
                  · have := HYA.out q hy; omega
                  · omega
                · rcases hq with (hq | hq) | (hq | hq)
                  · exact HGE.out q (.inl hq)
                  · omega
                  · exact HGE.out q (.inr hq)
                  · omega
              case measure => simp [intOf]; omega
      · have hkd : k = l.length := by omega
        subst hkd
        go_wp2_with fail
        go_ret
        exact ⟨rfl, HB.out⟩
end Go.Proofs.Ytkckiijnooncdaa
