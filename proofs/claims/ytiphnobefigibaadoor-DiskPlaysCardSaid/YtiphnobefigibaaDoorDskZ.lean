/- The document's disk: an act, by the statements' function model. Under the stated premises on sizes. -/
import Derived.Test.YtiphnobefigibaaDoorDskY
import Derived.Test.YtiphnobefigibaaDoorDskJ
namespace Go.Proofs.YtiphnobefigibaaDoor
open Go.RowKit Go.Bl
attribute [local go_sem ↓] Go.wp_at_zero Go.wp_at_succ

theorem MOut.from {w w1 w' : World} {m : Nat} {d' : Dk} {F : Nat → Prop} (h : MOut w1 w' m d' F) (hb : Below w.heap.size w w1) (hF : ∀ k, F k → k < w.heap.size) : MOut w w' m d' F := by
  obtain ⟨h1, S, h2, h3⟩ := h
  have z1 := hb.size
  have z2 := h1.size
  refine ⟨(Keeps.of_fresh hb F).trans h1, S, MdAt.widen h2 (fun k hk => ?_) (fun k hk => ?_), h3⟩
  · rcases hk with hk | hk
    · exact Or.inl hk
    · exact Or.inr ⟨Nat.le_trans z1 hk.1, hk.2⟩
  · rcases hk with hk | hk
    · exact Nat.lt_of_lt_of_le (hF k hk) (Nat.le_trans z1 z2)
    · exact hk.2
theorem Dk.Ok.small {d : Dk} (h : d.Ok) : d.L.length ≤ 1000 ∧ d.used ≤ 1000000000000 ∧ ∀ f ∈ d.L, 0 ≤ f.syn ∧ f.syn ≤ f.bytes.size ∧ f.bytes.size ≤ 1073741824 := by
  have h1 := h.used
  have h2 := h.room2
  have h3 := h.len
  refine ⟨by omega, by unfold Dk.used; omega, fun f hf => ⟨(h.syn f hf).1, (h.syn f hf).2, ?_⟩⟩
  have := total_mem hf
  omega

set_option maxRecDepth 8000 in
set_option maxHeartbeats 4000000 in
theorem model_any (w : World) (F G : Nat → Prop) (m : Nat) (d : Dk) (h : MdD w m d F) (hok : d.Ok) (a : Ac) (ha : AcOk w G a) (hG : ∀ k, G k → ¬ F k) (hs : a.name.size ≤ 200 ∧ a.more.size ≤ 500) :
    Calls Tryd.prog 20 #[.pointer (some ⟨m, 0, none⟩), .agg #[.int .i64 a.op, .string a.name, .string a.more, a.kv]] w fun e w' => ∃ r d' ks, e = .returned (.int .i64 r) ∧ (r, d') = d.does a ks ∧ (pickOf a.op 8 = 7 → Names d.L ks) ∧ MOut w w' m d' F := by
  obtain ⟨hkv, hop, -, -⟩ := ha
  obtain ⟨hs1, hs2⟩ := hs
  obtain ⟨B, c, hkk, hB1, hB2⟩ := hkv.shape
  rw [hkk] at hkv ⊢
  have hWb : Below w.heap.size w (w.alloc (.cells #[.int .i64 a.op, .string a.name, .string a.more, .slice B a.keep.length c] 44)) := (Below.refl _ w).alloc (Nat.le_refl _) _
  have hblk := heap_alloc_new w (.cells #[.int .i64 a.op, .string a.name, .string a.more, .slice B a.keep.length c] 44)
  have H := Lib.hid h
  obtain ⟨l1, l2, l3⟩ := hok.small
  have L3 := Lib.hid l3
  have HK := Lib.hid hkv
  have HWb := Lib.hid hWb
  have HBL := Lib.hid hblk
  have HG := Lib.hid hG
  clear h hkv hWb hblk hG l3 hkk
  go_enter Tryd.func20, Tryd.ntmps20
  go_upto_region 1 with (fail)
  generalize w.alloc (.cells #[.int .i64 a.op, .string a.name, .string a.more, .slice B a.keep.length c] 44) = w1 at HWb HBL ⊢
  have H1 := Lib.hid (H.out.fresh HWb.out)
  have HK1 := Lib.hid (HK.out.fresh HWb.out)
  have x0 : w1.cell? ⟨w.heap.size, 0, none⟩ = some (.int .i64 a.op) := cell_of_row w1 _ 0 _ _ _ HBL.out
  have x1 : w1.cell? ⟨w.heap.size, 1, none⟩ = some (.string a.name) := cell_of_row w1 _ 1 _ _ _ HBL.out
  have x2 : w1.cell? ⟨w.heap.size, 2, none⟩ = some (.string a.more) := cell_of_row w1 _ 2 _ _ _ HBL.out
  have x3 : w1.cell? ⟨w.heap.size, 3, none⟩ = some (.slice B a.keep.length c) := cell_of_row w1 _ 3 _ _ _ HBL.out
  have HKA : ∀ w' d', MOut w1 w' m d' F → MOut w w' m d' F := fun w' d' hk => hk.from HWb.out H.out.lt
  have HKA := Lib.hid HKA
  clear HBL H HK
  go_wp2_with fail
  refine (pick_any w1 a.op 8 hop (by decide)).mono ?_
  rintro e w2 ⟨rfl, rfl⟩
  obtain ⟨r1, r2⟩ := pickOf_range a.op (n := 8) (by decide)
  obtain ⟨P, hP⟩ : ∃ P, pickOf a.op 8 = P := ⟨_, rfl⟩
  have HP := Lib.hid hP
  rw [hP] at r1 r2 ⊢
  clear hP hop
  by_cases hP2 : P ≤ 2
  · have hc := mappend_any w1 m d F H1.out l1 l2 a.name a.more (by omega) (by omega)
    have hd : ∀ ks, d.does a ks = d.app a.name a.more := fun ks => by unfold Dk.does; rw [HP.out, if_pos hP2]
    have HC := Lib.hid hc
    have HDD := Lib.hid hd
    clear hc hd
    have hP3 : P = 0 ∨ P = 1 ∨ P = 2 := by omega
    clear r1 r2 hP2
    rcases hP3 with rfl | rfl | rfl
    all_goals (go_wp2_with fail; refine HC.out.mono ?_; rintro e w3 ⟨rfl, hD⟩; go_wp2_with fail; go_ret; exact ⟨_, _, [], rfl, (HDD.out []).symm, (fun h => by have := HP.out; omega), HKA.out _ _ hD⟩)
  · by_cases hP4 : P ≤ 4
    · have hc := msync_any w1 m d F H1.out l1 a.name
      have hd : ∀ ks, d.does a ks = ((if d.find a.name = none then 6 else 0), d.sync a.name) := fun ks => by unfold Dk.does; rw [HP.out, if_neg hP2, if_pos hP4]
      obtain ⟨ev, hev⟩ : ∃ ev : Int, (if d.find a.name = none then (6 : Int) else 0) = ev := ⟨_, rfl⟩
      rw [hev] at hc hd
      have HC := Lib.hid hc
      have HDD := Lib.hid hd
      clear hc hd hev
      have hP3 : P = 3 ∨ P = 4 := by omega
      clear r1 r2 hP2 hP4
      rcases hP3 with rfl | rfl
      all_goals (go_wp2_with fail; refine HC.out.mono ?_; rintro e w3 ⟨rfl, hD⟩; go_wp2_with fail; go_ret; exact ⟨_, _, [], rfl, (HDD.out []).symm, (fun h => by have := HP.out; omega), HKA.out _ _ hD⟩)
    · by_cases hP5 : P = 5
      · have hc := mrename_any w1 m d F H1.out l1 a.name a.more (by omega)
        have hd : ∀ ks, d.does a ks = d.ren a.name a.more := fun ks => by unfold Dk.does; rw [HP.out, if_neg hP2, if_neg hP4, if_pos hP5]
        have HC := Lib.hid hc
        have HDD := Lib.hid hd
        clear hc hd r1 r2 hP2 hP4
        subst hP5
        go_wp2_with fail
        refine HC.out.mono ?_
        rintro e w3 ⟨rfl, hD⟩
        go_wp2_with fail
        go_ret
        exact ⟨_, _, [], rfl, (HDD.out []).symm, (fun h => by have := HP.out; omega), HKA.out _ _ hD⟩
      · by_cases hP6 : P = 6
        · have hc := mdelete_any w1 m d F H1.out l1 a.name
          have hd : ∀ ks, d.does a ks = ((if d.find a.name = none then 6 else 0), d.del a.name) := fun ks => by unfold Dk.does; rw [HP.out, if_neg hP2, if_neg hP4, if_neg hP5, if_pos hP6]
          obtain ⟨ev, hev⟩ : ∃ ev : Int, (if d.find a.name = none then (6 : Int) else 0) = ev := ⟨_, rfl⟩
          rw [hev] at hc hd
          have HC := Lib.hid hc
          have HDD := Lib.hid hd
          clear hc hd r1 r2 hP2 hP4 hP5 hev
          subst hP6
          go_wp2_with fail
          refine HC.out.mono ?_
          rintro e w3 ⟨rfl, hD⟩
          go_wp2_with fail
          go_ret
          exact ⟨_, _, [], rfl, (HDD.out []).symm, (fun h => by have := HP.out; omega), HKA.out _ _ hD⟩
        · have hc := mcrash_any w1 m d F G H1.out l1 L3.out (.slice B a.keep.length c) a.keep HK1.out HG.out
          have hd : ∀ ks, d.does a ks = (0, ⟨d.room, crashN a.keep ks d.L ks.length⟩) := fun ks => by unfold Dk.does; rw [HP.out, if_neg hP2, if_neg hP4, if_neg hP5, if_neg hP6]
          have HC := Lib.hid hc
          have HDD := Lib.hid hd
          have hP7 : P = 7 := by omega
          clear hc hd r1 r2 hP2 hP4 hP5 hP6
          subst hP7
          go_wp2_with fail
          refine HC.out.mono ?_
          rintro e w3 ⟨rfl, ks, hN, hD⟩
          go_wp2_with fail
          go_ret
          exact ⟨_, _, ks, rfl, (HDD.out ks).symm, (fun _ => hN), HKA.out _ _ hD⟩
end Go.Proofs.YtiphnobefigibaaDoor
