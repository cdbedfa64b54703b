/- The history: the document's state plays a log; the statement's row of entries. Under the tables that utf8 lays. -/
import Derived.Test.YthdcnknjjbdefaaGreatDoorHisS
import Derived.Test.YthdcnknjjbdefaaGreatDoorStaD
import Derived.Test.YthdcnknjjbdefaaGreatDoorStaR
namespace Go.Proofs.YthdcnknjjbdefaaGreatDoor.His
open Go.RowKit Go.Bl
attribute [local go_sem ↓] Go.wp_at_zero Go.wp_at_succ

/-- Entries whose slice of events is one cell. -/
structure EntS where
  val : Ent
  one : val.evv.oneCell' = true
def ensc (a : EntS) : List Value := entc a.val
theorem ensc_one (x : EntS) (u : Value) (h : u ∈ ensc x) : u.oneCell' = true := by
  simp only [ensc, entc, List.mem_cons, List.not_mem_nil, or_false] at h
  rcases h with rfl | rfl | rfl | rfl | rfl | rfl | rfl <;> first | rfl | exact x.one
theorem infoEntry : (Tryz.prog.info? 55).map (fun i => (i.zero, i.size, i.bytes)) = some (some (.agg #[.int .i64 0, .int .i64 0, .string ByteArray.empty, .int .i64 0, .int .i64 0, .int .i64 0, .slice none 0 0]), 7, 80) := by kernel_rfl
theorem elEns : El Tryz.prog 22 55 7 80 ensc := ⟨Tryz.underlying22, ⟨_, infoEntry, rfl⟩, by decide, by decide, fun _ => rfl, ensc_one⟩
theorem sl_val {w : World} {F : Nat → Prop} {v : Value} {R : List EntS} (h : Sl w F 7 ensc v R) : Sl w F 7 entc v (R.map EntS.val) := by
  obtain ⟨A, c, h1, h2, h3, h4⟩ := h
  refine ⟨A, c, by rw [List.length_map]; exact h1, by rw [List.length_map]; exact h2, h3, fun h0 => ?_⟩
  rw [List.length_map] at h0
  obtain ⟨b, o, e1, e2, e3, e4⟩ := h4 h0
  refine ⟨b, o, e1, e2, e3, fun i hi j u hu => ?_⟩
  have hi' : i < R.length := by simpa using hi
  rw [List.getElem_map] at hu
  exact e4 i hi' j u hu
theorem ent_small {w : World} {G : Nat → Prop} {a : Ent} (h : EntOk w G a) (hf : entF a = true) : BatchSm w G a := by
  obtain ⟨q1, q2, q3⟩ := entF_at hf
  exact ⟨h.1, fun e he => ⟨Nat.le_trans (q3 e he).1 (by decide), Nat.le_trans (q3 e he).2 (by decide)⟩, Nat.le_trans q1 (by decide), Nat.le_trans q2 (by decide)⟩
/-- A log that lies there. -/
structure LogIn (w : World) (v : Value) (log : List Ent) : Prop where
  ents : EntsOk w (fun b => b < w.heap.size) v log
  fit : ∀ a ∈ log, entF a = true
theorem EntsOk.grow {w w' : World} {v : Value} {log : List Ent} (h : EntsOk w (fun b => b < w.heap.size) v log) (hB : Below w.heap.size w w') : EntsOk w' (fun b => b < w'.heap.size) v log := by
  have h0 := EntsOk.fresh h hB
  exact ⟨h0.1.mono (fun k hk _ => hk), fun a ha => ⟨(h0.2 a ha).1.mono (fun k hk _ => hk), (h0.2 a ha).2⟩⟩
theorem LogIn.fresh {w w' : World} {v : Value} {log : List Ent} (h : LogIn w v log) (hB : Below w.heap.size w w') : LogIn w' v log := ⟨EntsOk.grow h.ents hB, h.fit⟩
theorem LogIn.take {w : World} {A : Option Addr} {n c : Nat} {log : List Ent} (h : LogIn w (.slice A n c) log) {i : Nat} (hi : i ≤ log.length) : LogIn w (.slice (cutA A c 0 7) i c) (log.take i) :=
  ⟨⟨h.ents.1.take_ hi, fun a ha => h.ents.2 a (List.mem_of_mem_take ha)⟩, fun a ha => h.fit a (List.mem_of_mem_take ha)⟩

theorem mread_any (w : World) (m : Nat) (s : St) (F : Nat → Prop) (h : MtAt w m s F) (n : ByteArray) (k : Int) (hL : s.L.length ≤ 1073741824) : Calls Tryz.prog 20 #[.pointer (some ⟨m, 0, none⟩), .string n, .int .i64 k] w fun e w' => ∃ v, e = .returned v ∧ Below w.heap.size w w' ∧
      Sl w' (fun b => w.heap.size ≤ b) 2 evc v (readS s n k) := by
  obtain ⟨x, t, FX, FT, h⟩ := h
  have c0 := h.c0
  have HI := Lib.hid h.idx
  clear h
  go_enter Tryz.func20, Tryz.ntmps20
  go_wp2_with fail
  refine (Idx.rrange_any w x s.L FX HI.out n k 16 hL).mono ?_
  rintro e w2 ⟨v, rfl, hB, hS⟩
  have HS := Lib.hid hS
  have HB := Lib.hid hB
  clear hS hB
  go_wp2_with fail
  go_ret
  exact ⟨v, rfl, HB.out, HS.out⟩
theorem stK_len {log : List Ent} (h : LogOk log) (k : Nat) (hk : k ≤ log.length) (hl : log.length ≤ 100) : (stK log k).L.length ≤ 800 ∧ (stK log k).T.length ≤ 100 ∧ (stK log k).ap = k := by
  have := h.len k hk
  exact ⟨by omega, by omega, h.ap k hk⟩

set_option maxRecDepth 10000 in
set_option maxHeartbeats 4000000 in
theorem playD_any (w : World) (v : Value) (log : List Ent) (h : LogIn w v log) (hok : LogOk log) (hl : log.length ≤ 100) :
    Calls Tryz.prog 26 #[v] w fun e w' => ∃ m F, e = .returned (.tuple #[.pointer (some ⟨m, 0, none⟩), .int .i64 0]) ∧ MtAt w' m (stF log) F ∧ (∀ j, F j → w.heap.size ≤ j) ∧ Below w.heap.size w w' := by
  obtain ⟨A, c, rfl, hA1, hA2⟩ := h.ents.1.shape
  unfold maxLen at hA2
  have HL := Lib.hid h
  have HOK := Lib.hid hok
  obtain ⟨n, hn⟩ : ∃ n, log.length = n := ⟨_, rfl⟩
  have HN := Lib.hid hn
  rw [hn] at hA1 HL hl ⊢
  clear h hok hn
  go_enter Tryz.func26, Tryz.ntmps26
  go_wp2_with fail
  refine (mnew_any w).mono ?_
  rintro e w1 ⟨m, rfl, hM, hB⟩
  have HM := Lib.hid hM
  have HB := Lib.hid hB
  clear hM hB
  go_wp2_with fail
  go_loopw [5] (fun i wr => ∃ (k : Nat) (F : Nat → Prop), k ≤ n ∧ i = .int .i64 k ∧ MtAt wr m (stK log k) F ∧ (∀ j, F j → w.heap.size ≤ j) ∧ Below w.heap.size w wr) (fun i _ => n - (RowKit.intOf i).toNat)
  case atStart => exact ⟨0, _, Nat.zero_le _, rfl, HM.out, fun j hj => hj.1, HB.out⟩
  case round =>
    rename World => wr
    obtain ⟨k, F, hk, rfl, hM, hF, hB⟩ := hrel
    have HM := Lib.hid hM
    have HF := Lib.hid hF
    have HB := Lib.hid hB
    clear hM hF hB
    by_cases hlt : k < n
    · have hkl : k < log.length := by rw [HN.out]; exact hlt
      have hEr := (HL.out.fresh HB.out).ents
      obtain ⟨b0, o0, hAe, _, _, hx⟩ := hEr.1.cell_ hkl
      cases hAe
      have hbs := ent_small (hEr.2 _ (List.getElem_mem hkl)) (HL.out.fit _ (List.getElem_mem hkl))
      obtain ⟨l1, l2, l3⟩ := stK_len HOK.out k (by omega) (by rw [HN.out]; exact hl)
      have hz := HOK.out k hkl
      have hev := hbs.2.2.2
      have hb8 := (right_nums (apply_zero hz).1).2.2.2.2.2
      have hsu := stK_succ hkl
      have hcall := mapply_any wr m (stK log k) F HM.out (fun b => b < w.heap.size) log[k] (by
        have h1 := ent_small ((HL.out.ents.2 _ (List.getElem_mem hkl)).fresh HB.out) (HL.out.fit _ (List.getElem_mem hkl))
        exact h1) (fun x hx hf => by have := HF.out x hf; omega) (by omega) (by omega) (by omega)
      rw [hz, ← hsu] at hcall
      obtain ⟨oc, hoc⟩ : ∃ oc, (applyS (stK log k) log[k]).2.1 = oc := ⟨_, rfl⟩
      rw [hoc] at hcall
      obtain ⟨r1, r2, r3, r4⟩ := oc
      obtain ⟨EA, Ec, hev2, _, _⟩ := hbs.1.shape
      obtain ⟨EN, hEN⟩ : ∃ n, log[k].evs.length = n := ⟨_, rfl⟩
      rw [hEN] at hev2
      obtain ⟨a, ha⟩ : ∃ a, log[k] = a := ⟨_, rfl⟩
      rw [ha] at hx hcall hev2
      rw [hev2] at hcall
      have x0 := hx 0 _ rfl
      have x1 := hx 1 _ rfl
      have x2 := hx 2 _ rfl
      have x3 := hx 3 _ rfl
      have x4 := hx 4 _ rfl
      have x5 := hx 5 _ rfl
      have x6 := hx 6 _ rfl
      rw [hev2] at x6
      simp only [Nat.add_zero] at x0
      have HC := Lib.hid hcall
      have hk0 : (0 : Int) ≤ (k : Int) := by omega
      have hk1 : (k : Int) < (n : Int) := by omega
      clear hEr hx hbs hz hev hb8 hsu hcall hoc hev2 hEN ha l1 l2 l3
      go_wp2_with fail
      refine HC.out.mono ?_
      rintro e w2 ⟨rfl, hAp⟩
      have hB2 : Below w.heap.size w w2 := Go.Bl.Below.keep HB.out hAp.2 HB.out.size (fun j hj => HF.out j hj)
      have hB3 : Below w2.heap.size w2 (w2.alloc (.cells #[.int .i64 r1, .int .i64 r2, .int .i64 r3, .int .i64 r4] 34)) := (Below.refl _ _).alloc (Nat.le_refl _) _
      have HM3 := Lib.hid (hAp.1.fresh hB3)
      have HB3 := Lib.hid (hB2.trans (hB3.mono hB2.size))
      have HF3 : Hid (∀ j, (F j ∨ wr.heap.size ≤ j ∧ j < w2.heap.size) → w.heap.size ≤ j) := Lib.hid fun j hj => by
        rcases hj with hj | hj
        · exact HF.out j hj
        · have := HB.out.size; omega
      clear hAp hB2 hB3 x0 x1 x2 x3 x4 x5 x6
      go_wp2_with fail
      go_roundw
      case rel => exact ⟨k + 1, _, hlt, by go_num, HM3.out, HF3.out, HB3.out⟩
      case measure => simp [RowKit.intOf]; omega
    · have hkn : k = n := by omega
      subst hkn
      have hst : stK log k = stF log := by rw [← HN.out, stK_all]
      rw [hst] at HM
      go_wp2_with fail
      go_ret2
      exact ⟨m, F, rfl, HM.out, HF.out, HB.out⟩
end Go.Proofs.YthdcnknjjbdefaaGreatDoor.His
