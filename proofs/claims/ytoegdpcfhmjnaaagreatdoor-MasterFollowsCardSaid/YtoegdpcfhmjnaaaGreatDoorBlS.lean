/- Texts as bytes and back. Proved for every program; no condition. -/
import Derived.Test.YtoegdpcfhmjnaaaGreatDoorBlA
import Derived.Laws.IdiomStrings
namespace Go.Bl
open Go.RowKit

/-- The bytes of t lie from the cell o of the block b on. -/
def BytesAt (w : World) (b o : Nat) (t : ByteArray) : Prop := ∀ j u, t.data[j]? = some u → w.cell? ⟨b, o + j, none⟩ = some (.int .u8 u.toNat)

theorem size_drew_alloc (w : World) (o : Obj) : (w.drew.alloc o).heap.size = w.heap.size + 1 := World.size_alloc w.drew o
theorem keeps_drew_alloc (w : World) (o : Obj) : Keeps (fun _ => False) w (w.drew.alloc o) := ((Keeps.refl _ w).drew).alloc o
theorem to_bytes {P : Program} {src dst e : TypeId} (hs : P.underlying src = some .string) (hd : P.underlying dst = some (.slice e)) (he : P.underlying e = some (.int .u8)) (w : World) (s : ByteArray) :
    ∃ cap w1, (convert src dst (.string s)).run P w = .ok (.slice (some ⟨w.heap.size, 0, none⟩) s.size cap) w1 ∧ s.size ≤ cap ∧ w1.heap.size = w.heap.size + 1 ∧ Keeps (fun _ => False) w w1 ∧
      BytesAt w1 w.heap.size 0 s ∧ ∀ o, o < s.size → w1.frozen? ⟨w.heap.size, o, none⟩ = false := by
  have hrow : s.size ≤ (bytesRow s (grownCap w s.size 0 e)).size := by unfold bytesRow; simp
  refine ⟨_, _, run_bytes_of_string w src dst e s hs hd he, grownCap_ge w s.size 0 e, size_drew_alloc _ _, keeps_drew_alloc _ _, ?_, ?_⟩
  · intro j u hu
    have hj : j < s.data.size := (Array.getElem?_eq_some_iff.1 hu).1
    have hblk := heap_alloc_new w.drew (.cells (bytesRow s (grownCap w s.size 0 e)) e ((bytesRow s (grownCap w s.size 0 e)).size, (bytesRow s (grownCap w s.size 0 e)).size + 1))
    rw [show w.heap.size = w.drew.heap.size from rfl, Nat.zero_add, cell_of_row _ _ j _ _ _ hblk]
    unfold bytesRow
    rw [Array.getElem?_append_left (by simpa using hj), Array.getElem?_map, hu]
    rfl
  · intro o ho
    have hblk := heap_alloc_new w.drew (.cells (bytesRow s (grownCap w s.size 0 e)) e ((bytesRow s (grownCap w s.size 0 e)).size, (bytesRow s (grownCap w s.size 0 e)).size + 1))
    rw [show w.heap.size = w.drew.heap.size from rfl]
    generalize bytesRow s (grownCap w s.size 0 e) = C at hblk hrow ⊢
    unfold World.frozen?
    rw [hblk]
    simp only [Bool.and_eq_false_iff, decide_eq_false_iff_not]
    exact .inl (by omega)

theorem from_bytes {P : Program} {src dst e : TypeId} (hs : P.underlying src = some (.slice e)) (he : P.underlying e = some (.int .u8)) (hd : P.underlying dst = some .string) (w : World) (b o cap n : Nat) (t : ByteArray) (hn : t.size = n) (hc : BytesAt w b o t) :
    (convert src dst (.slice (some ⟨b, o, none⟩) n cap)).run P w = .ok (.string t) w := by
  subst hn
  have := run_convert_bytes_back (P := P) w src dst e ⟨b, o, none⟩ cap t.data.toList hs he hd (fun j hj => by
    have h1 := hc j (t.data.toList[j]) (by simp at hj; simp [hj])
    have h2 : (⟨b, o, none⟩ : Addr).add j = ⟨b, o + j, none⟩ := by unfold Addr.add; split <;> simp_all
    rw [h2]; exact h1)
  simpa using this
end Go.Bl
