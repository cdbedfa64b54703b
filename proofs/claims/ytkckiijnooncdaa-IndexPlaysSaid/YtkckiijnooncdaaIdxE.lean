/- The examples at the head of all statements: shown() is true. -/
import Derived.Test.YtkckiijnooncdaaIdxC
import Derived.Test.YtkckiijnooncdaaIdxD
namespace Go.Proofs.Ytkckiijnooncdaa
open Go.RowKit Go.Bl

theorem Sl.of_block {α : Type} {w : World} {k : Nat} {enc : α → List Value} {l : List α} {g : Nat} {cs : Array Value} {e : TypeId} {fr : Nat × Nat} {n : Nat} (hk : ∀ x, (enc x).length = k)
    (hg : w.heap[g]? = some (.cells cs e fr)) (hc : cs.toList = l.flatMap enc) (hn : n = l.length) (hm : n ≤ maxLen) : Sl w (fun b => b = g) k enc (.slice (some ⟨g, 0, none⟩) n n) l := by
  subst hn
  refine ⟨_, _, rfl, Nat.le_refl _, hm, fun _ => ⟨g, 0, rfl, rfl, (Array.getElem?_eq_some_iff.1 hg).1, fun i hi j u hu => ?_⟩⟩
  have hj : j < k := by
    have := (List.getElem?_eq_some_iff.1 hu).1
    rwa [hk] at this
  have h1 := flatMap_at enc k hk l i hi j hj
  rw [hu, ← hc] at h1
  rw [Nat.zero_add, cell_of_row w g (i * k + j) cs e fr hg]
  simpa using h1

theorem IdxAt.mono {w : World} {p : Nat} {L : List One} {F F' : Nat → Prop} (h : IdxAt w p L F) (hF : ∀ k, F k → F' k) (hl : ∀ k, F' k → k < w.heap.size) : IdxAt w p L F' := by
  obtain ⟨bm, V, n, h⟩ := h
  exact ⟨bm, V, n, h.blk, h.map, h.le, h.rows, h.nil, h.apart, hF _ h.fp, hF _ h.fm, fun s b hb => hF _ (h.fv s b hb), hl⟩
theorem IdxAt.lt {w : World} {p : Nat} {L : List One} {F : Nat → Prop} (h : IdxAt w p L F) : ∀ k, F k → k < w.heap.size := by
  obtain ⟨bm, V, n, h⟩ := h
  exact h.lt

def shL : List One := [⟨⟨#[115]⟩, 5, ⟨⟨#[97]⟩, ⟨#[]⟩⟩⟩, ⟨⟨#[115]⟩, 5, ⟨⟨#[98]⟩, ⟨#[]⟩⟩⟩, ⟨⟨#[115]⟩, 6, ⟨⟨#[99]⟩, ⟨#[]⟩⟩⟩]

set_option maxHeartbeats 400000 in
theorem shown_any (w : World) : Calls Try.prog 7 #[] w fun e w' => e = .returned (.bool true) ∧ Below w.heap.size w w' := by
  go_enter Try.func7, Try.ntmps7
  go_wp2_with fail
  refine (new_any _).mono ?_
  rintro e w1 ⟨rfl, hI1, hB1⟩
  have HI1 := Lib.hid hI1
  have HB1 := Lib.hid hB1
  clear hI1 hB1
  go_wp2_with fail
  have I1 := HI1.out.fresh ((Below.refl _ _).alloc (Nat.le_refl _) (.cells #[.string ⟨#[97]⟩, .string ⟨#[]⟩, .string ⟨#[98]⟩, .string ⟨#[]⟩] 41))
  refine (add_any _ _ _ _ (fun b => b = w1.heap.size) I1 5 ⟨#[115]⟩ _ [⟨⟨#[97]⟩, ⟨#[]⟩⟩, ⟨⟨#[98]⟩, ⟨#[]⟩⟩] (Sl.of_block (fun _ => rfl) (heap_alloc_new w1 _) rfl rfl (by decide)) (by intro b hb hx; subst hb; exact absurd hx.2 (by omega)) (by decide) (by decide)).mono ?_
  rintro e w2 ⟨rfl, hK2, hI2⟩
  have hB2 : Below w.heap.size w w2 := Below.keep (HB1.out.alloc HB1.out.size _) hK2 (by have := HB1.out.size; simp; omega) (fun k hk => hk.1)
  replace hI2 := hI2.mono (F' := fun k => w.heap.size ≤ k ∧ k < w2.heap.size) (fun k hk => by
    have q1 := hK2.size; have q2 := HB1.out.size; simp only [World.size_alloc] at q1 hk
    rcases hk with hk | hk <;> omega) (fun k hk => hk.2)
  have HI2 := Lib.hid hI2
  have HB2 := Lib.hid hB2
  clear hI2 hB2 hK2 I1
  clear HI1 HB1
  go_wp2_with fail
  have I2 := HI2.out.fresh ((Below.refl _ _).alloc (Nat.le_refl _) (.cells #[.string ⟨#[99]⟩, .string ⟨#[]⟩] 41))
  refine (add_any _ _ _ _ (fun b => b = w2.heap.size) I2 6 ⟨#[115]⟩ _ [⟨⟨#[99]⟩, ⟨#[]⟩⟩] (Sl.of_block (fun _ => rfl) (heap_alloc_new w2 _) rfl rfl (by decide)) (by intro b hb hx; subst hb; exact absurd hx.2 (by omega)) (by decide) (by decide)).mono ?_
  rintro e w3 ⟨he, hK3, hI3⟩
  obtain rfl : e = .returned (.int .i64 2) := he
  have hB3 : Below w.heap.size w w3 := Below.keep (HB2.out.alloc HB2.out.size _) hK3 (by have := HB2.out.size; simp; omega) (fun k hk => hk.1)
  replace hI3 : IdxAt w3 (w.heap.size + 1) shL _ := hI3
  replace hI3 := hI3.mono (F' := fun k => w.heap.size ≤ k ∧ k < w3.heap.size) (fun k hk => by
    have q1 := hK3.size; have q2 := HB2.out.size; simp only [World.size_alloc] at q1 hk
    rcases hk with hk | hk <;> omega) (fun k hk => hk.2)
  have HI3 := Lib.hid hI3
  have HB3 := Lib.hid hB3
  clear hI3 hB3 hK3 I2 HI2 HB2
  go_wp2_with fail
  refine (range_any _ _ _ _ HI3.out ⟨#[115]⟩ (by decide) 2 9 (by decide)).mono ?_
  rintro e w4 ⟨v4, rfl, hB4, hS4⟩
  replace hS4 : Sl w4 _ 2 evc v4 [⟨⟨#[98]⟩, ⟨#[]⟩⟩, ⟨⟨#[99]⟩, ⟨#[]⟩⟩] := hS4
  have HI4 := Lib.hid (HI3.out.fresh hB4)
  have HB4 := Lib.hid (HB3.out.trans (hB4.mono HB3.out.size))
  obtain ⟨A4, c4, rfl, _⟩ := hS4.shape
  have HS4 := Lib.hid hS4
  clear hS4 hB4 HI3 HB3
  go_wp2_with fail
  have hc := same_any (w4.alloc (.cells #[.string ⟨#[98]⟩, .string ⟨#[]⟩, .string ⟨#[99]⟩, .string ⟨#[]⟩] 41)) _ (fun b => b = w4.heap.size) (.slice A4 2 c4) (.slice (some ⟨w4.heap.size, 0, none⟩) 2 2) [⟨⟨#[98]⟩, ⟨#[]⟩⟩, ⟨⟨#[99]⟩, ⟨#[]⟩⟩] [⟨⟨#[98]⟩, ⟨#[]⟩⟩, ⟨⟨#[99]⟩, ⟨#[]⟩⟩]
    (HS4.out.fresh ((Below.refl _ _).alloc (Nat.le_refl _) (.cells #[.string ⟨#[98]⟩, .string ⟨#[]⟩, .string ⟨#[99]⟩, .string ⟨#[]⟩] 41))) (Sl.of_block (fun _ => rfl) (heap_alloc_new w4 _) rfl rfl (by decide))
  refine hc.mono ?_
  clear hc
  rintro e w5 ⟨he, q5, rfl⟩
  obtain rfl : e = .returned (.bool true) := he
  go_wp2_with fail
  refine (pos_any _ _ _ _ (((HI4.out.fresh ((Below.refl _ _).alloc (Nat.le_refl _) _))).keep ((Keeps.refl (fun _ => False) _).drewN q5) (fun _ _ => id)) ⟨#[115]⟩ (by decide) 3 (by decide)).mono ?_
  rintro e w6 ⟨he, rfl⟩
  obtain rfl : e = .returned (.int .i64 6) := he
  go_wp2_with fail
  refine (version_any _ _ _ _ (((HI4.out.fresh ((Below.refl _ _).alloc (Nat.le_refl _) _))).keep ((Keeps.refl (fun _ => False) _).drewN q5) (fun _ _ => id)) ⟨#[115]⟩ (by decide)).mono ?_
  rintro e w6 ⟨he, rfl⟩
  obtain rfl : e = .returned (.int .i64 3) := he
  go_wp2_with fail
  go_ret
  exact ⟨rfl, HB4.out.trans ((((Below.refl _ _).alloc (by have := HB4.out.size; omega) _)).trans ⟨rfl, rfl, rfl, Nat.le_refl _, fun _ _ => rfl⟩)⟩
end Go.Proofs.Ytkckiijnooncdaa
