/- ManifestKeeps: the disk and the manifest that is to be there; in plain words, and on the heap. Under the stated premises. -/
import Derived.Test.YthdehdlbocgfaaaDoorManI
import Derived.Test.YthdehdlbocgfaaaDoorManF
namespace Go.Proofs.YthdehdlbocgfaaaDoor
open Go.RowKit Go.Bl
attribute [local go_sem ↓] Go.wp_at_zero Go.wp_at_succ

/-- The file of a manifest. -/
def manB (n : Int) (l : List Int) : ByteArray := Bl (frmL crcU (manL n l))
/-- The disk keeps the manifest n, l (or none, where it is the first one), and nothing but it and temp. -/
structure KpD (d : Dk) (n : Int) (l : List Int) : Prop where
  names : NamesIn [sFile, sTemp] d
  is : d.find sFile = none ∧ n = 1 ∧ l = [] ∨ rightB n l = true ∧ d.find sFile = some ⟨sFile, manB n l, (manB n l).size⟩
section
variable {d : Dk} {n : Int} {l : List Int}
theorem KpD.len (h : KpD d n l) (hn : (d.L.map Fl.name).Nodup) : d.L.length < 40 := by
  have := h.names.len hn
  have e : ([sFile, sTemp] : List ByteArray).length = 2 := rfl
  omega
theorem KpD.is_of {d' : Dk} (h : KpD d n l) (hn : NamesIn [sFile, sTemp] d') (hf : d'.find sFile = d.find sFile) : KpD d' n l := ⟨hn, by rw [hf]; exact h.is⟩
theorem KpD.del (h : KpD d n l) : KpD (d.del sTemp) n l := h.is_of (fun f hf => h.names f (List.mem_filter.1 hf).1) (find_del d file_temp)
theorem KpD.save (h : KpD d n l) (hn : (d.L.map Fl.name).Nodup) (n2 : Int) (l2 : List Int) :
    ((d.save n2 l2).1 = 0 → KpD (d.save n2 l2).2 n2 l2) ∧ ((d.save n2 l2).1 ≠ 0 → KpD (d.save n2 l2).2 n l) := by
  by_cases hr : rightB n2 l2 = true
  · rw [save_is hr]
    by_cases hm : d.room - (d.del sTemp).used < (Bl (frmL crcU (manL n2 l2))).size
    · rw [wr_full (h.len hn) hm]
      exact ⟨fun e => absurd (show (8 : Int) = 0 from e) (by decide), fun _ => h.del⟩
    · rw [wr_ok file_name file_temp (h.len hn) hm]
      refine ⟨fun _ => ⟨fun f hf => ?_, .inr ⟨hr, ?_⟩⟩, fun e => absurd rfl e⟩
      · rcases List.mem_append.1 hf with hf | hf
        · exact h.names f (List.mem_filter.1 (List.mem_filter.1 hf).1).1
        · obtain rfl := List.mem_singleton.1 hf
          exact List.mem_cons_self ..
      · exact find_snoc d.room (restL d.L sFile) ⟨sFile, _, _⟩ fun g hg => by simpa using (List.mem_filter.1 hg).2
  · unfold Dk.save
    rw [if_neg hr]
    exact ⟨fun e => absurd (show (1 : Int) = 0 from e) (by decide), fun _ => h⟩
theorem KpD.app (h : KpD d n l) (s : ByteArray) : KpD (d.app sTemp s).2 n l := by
  refine h.is_of (fun f hf => ?_) (find_app d s file_temp)
  unfold Dk.app at hf
  split at hf
  · exact h.names f hf
  · split at hf
    · split at hf
      · exact h.names f hf
      · split at hf
        · exact h.names f hf
        · rcases List.mem_append.1 (show f ∈ d.L ++ [(⟨sTemp, s, 0⟩ : Fl)] from hf) with hf | hf
          · exact h.names f hf
          · obtain rfl := List.mem_singleton.1 hf
            exact List.mem_cons_of_mem _ (List.mem_cons_self ..)
    · split at hf
      · exact h.names f hf
      · have h1 : f.name ∈ (updL sTemp (growF s) d.L).map Fl.name := List.mem_map.2 ⟨f, hf, rfl⟩
        rw [updL_names _ (g := growF s) (fun _ => rfl)] at h1
        obtain ⟨g, hg, e⟩ := List.mem_map.1 h1
        rw [← e]
        exact h.names g hg
theorem KpD.crash (h : KpD d n l) (hn : (d.L.map Fl.name).Nodup) (keep : List Int) (ks : List ByteArray) (k : Nat) : KpD ⟨d.room, crashN keep ks d.L k⟩ n l := by
  refine ⟨fun f hf => ?_, ?_⟩
  · have h1 : f.name ∈ (crashN keep ks d.L k).map Fl.name := List.mem_map.2 ⟨f, hf, rfl⟩
    rw [crashN_names] at h1
    obtain ⟨g, hg, e⟩ := List.mem_map.1 h1
    rw [← e]
    exact h.names g hg
  · rcases h.is with ⟨h1, h2⟩ | ⟨h1, h2⟩
    · exact .inl ⟨find_crash_none d.room d.room keep ks d.L h1 k, h2⟩
    · exact .inr ⟨h1, find_crash d.room d.room keep ks d.L hn h2 rfl k⟩
/-- What is loaded of it. -/
theorem KpD.load (h : KpD d n l) {X : Nat → Prop} {w : World} {p : Nat} (hq : Qd X w p d) : Calls Tryd.prog 15 #[.pointer (some ⟨p, 0, none⟩)] w fun e w' => ∃ v, e = .returned (.tuple #[.agg #[.int .i64 n, v], .int .i64 0]) ∧ Sl w' (fun _ => True) 1 intc v l ∧ Below w.heap.size w w' := by
  rcases h.is with ⟨h1, rfl, rfl⟩ | ⟨h1, h2⟩
  · refine (loadNone hq h1).mono ?_
    rintro e w' ⟨rfl, hB⟩
    exact ⟨_, rfl, Sl.nil_ _ _ _ _, hB⟩
  · have hc := loadSome hq _ h2
    rw [show (⟨sFile, manB n l, (manB n l).size⟩ : Fl).bytes = Bl (frmL crcU (manL n l)) from rfl, Lb_Bl, ld_save h1] at hc
    refine hc.mono ?_
    rintro e w' ⟨he, hB⟩
    rw [if_pos rfl] at he
    obtain ⟨v, rfl, hs⟩ := he
    exact ⟨v, rfl, hs.mono (fun _ _ _ => trivial), hB⟩
end
theorem Qd.less {X X' : Nat → Prop} {w : World} {p : Nat} {d : Dk} (h : Qd X w p d) (hm : ∀ k, X' k → X k) (hl : ∀ k, k < 2 → X' k) : Qd X' w p d := by
  obtain ⟨F, hF, hd⟩ := h.disk
  exact ⟨h.tabs, hl, fun k hk => h.hX k (hm k hk), ⟨F, hF, fun k hk hx => hd k hk (hm k hx)⟩⟩
/-- The pair's block, the block of what is to be there, the disk. -/
structure Kp (w0 w : World) (b p pm bn : Nat) (d : Dk) (n : Int) (v : Value) (l : List Int) : Prop where
  blk : w.heap[b]? = some (.cells #[.pointer (some ⟨p, 0, none⟩), .pointer (some ⟨pm, 0, none⟩)] 27 (0, 0))
  now : w.heap[bn]? = some (.cells #[.int .i64 n, v] 39 (0, 0))
  g1 : w0.heap.size ≤ b
  g2 : w0.heap.size ≤ bn
  disk : Qd (fun k => k < w0.heap.size ∨ k = b ∨ k = bn) w p d
  past : Below w0.heap.size w0 w
  segs : Sl w (fun k => k < w0.heap.size) 1 intc v l
  two : 2 ≤ w0.heap.size
section
variable {w0 w w' : World} {b p pm bn : Nat} {d : Dk} {n : Int} {v : Value} {l : List Int}
theorem Kp.ne (h : Kp w0 w b p pm bn d n v l) : b ≠ bn := fun e => by have := h.blk; rw [e, h.now] at this; simp at this
theorem Kp.c0 (h : Kp w0 w b p pm bn d n v l) : w.cell? ⟨b, 0, none⟩ = some (.pointer (some ⟨p, 0, none⟩)) := cell_of_row w b 0 _ _ _ h.blk
theorem Kp.n0 (h : Kp w0 w b p pm bn d n v l) : w.cell? ⟨bn, 0, none⟩ = some (.int .i64 n) := cell_of_row w bn 0 _ _ _ h.now
theorem Kp.n1 (h : Kp w0 w b p pm bn d n v l) : w.cell? ⟨bn, 1, none⟩ = some v := cell_of_row w bn 1 _ _ _ h.now
theorem Kp.f0 (h : Kp w0 w b p pm bn d n v l) : w.frozen? ⟨bn, 0, none⟩ = false := frozen_block h.now 0
theorem Kp.f1 (h : Kp w0 w b p pm bn d n v l) : w.frozen? ⟨bn, 1, none⟩ = false := frozen_block h.now 1
theorem Kp.begin (h : Pr w0 w b p pm d) (h2 : 2 ≤ w0.heap.size) : Kp w0 (w.alloc (.cells #[.int .i64 1, .slice none 0 0] 39)) b p pm w.heap.size d 1 (.slice none 0 0) [] := by
  have hB := (Below.refl _ w).alloc (Nat.le_refl _) (.cells #[.int .i64 1, .slice none 0 0] 39)
  have hb := (Array.getElem?_eq_some_iff.1 h.blk).1
  exact ⟨(hB.block b hb).trans h.blk, heap_alloc_new w _, h.new, h.past.size, h.disk.more hB (fun k hk => by rcases hk with hk | hk | hk; exact .inl (.inl hk); exact .inl (.inr hk); exact .inr (Nat.le_of_eq hk.symm)) (fun k hk => by have := h.past.size; simp; rcases hk with hk | hk | hk <;> omega) (fun k hk => .inl (Nat.lt_of_lt_of_le hk h2)), h.past.trans (hB.mono h.past.size), Sl.nil_ _ _ _ _, h2⟩
theorem Kp.lt0 (h : Kp w0 w b p pm bn d n v l) : b < w.heap.size := (Array.getElem?_eq_some_iff.1 h.blk).1
theorem Kp.lt1 (h : Kp w0 w b p pm bn d n v l) : bn < w.heap.size := (Array.getElem?_eq_some_iff.1 h.now).1
theorem Kp.fresh (h : Kp w0 w b p pm bn d n v l) (hB : Below w.heap.size w w') : Kp w0 w' b p pm bn d n v l :=
  ⟨(hB.block b h.lt0).trans h.blk, (hB.block bn h.lt1).trans h.now, h.g1, h.g2, h.disk.fresh hB, h.past.trans (hB.mono h.past.size), h.segs.fresh hB, h.two⟩
theorem Kp.step (h : Kp w0 w b p pm bn d n v l) {d' : Dk} (hD : Qd (fun k => k < w0.heap.size ∨ k = b ∨ k = bn) w' p d') (hk : Kx (fun k => k < w0.heap.size ∨ k = b ∨ k = bn) w w') : Kp w0 w' b p pm bn d' n v l :=
  ⟨(hk.block b h.lt0 (fun hn => hn (.inr (.inl rfl)))).trans h.blk, (hk.block bn h.lt1 (fun hn => hn (.inr (.inr rfl)))).trans h.now, h.g1, h.g2, hD, h.past.trans (hk.below (fun _ hk => .inl hk) h.past.size), h.segs.keep hk (fun _ _ h1 h2 => h2 (.inl h1)), h.two⟩
/-- Another manifest is to be there. -/
theorem Kp.put (h : Kp w0 w b p pm bn d n v l) {n2 : Int} {v2 : Value} {l2 : List Int} (hs : Sl w (fun k => k < w0.heap.size) 1 intc v2 l2) : Kp w0 ((w.setCell ⟨bn, 0, none⟩ (.int .i64 n2)).setCell ⟨bn, 1, none⟩ v2) b p pm bn d n2 v2 l2 := by
  have hk : Keeps (fun k => k = bn) w ((w.setCell ⟨bn, 0, none⟩ (.int .i64 n2)).setCell ⟨bn, 1, none⟩ v2) := ((Keeps.refl (fun k => k = bn) w).setCell (p := ⟨bn, 0, none⟩) (fun _ => rfl) _).setCell (p := ⟨bn, 1, none⟩) (fun _ => rfl) _
  have k2 := setCell_block (o := 1) (setCell_block (o := 0) h.now (.int .i64 n2)) v2
  exact ⟨hk.grownTo h.blk h.ne, k2, h.g1, h.g2, h.disk.keep (hk.mono (fun k _ e => .inr (.inr e))) (h.disk.tabs.keep hk (fun k e => e ▸ Nat.le_trans h.two h.g2) h.disk.tabs.lt), h.past.trans (hk.below h.past.size (fun k e => e ▸ h.g2)), hs.keep hk (fun k _ h1 e => by have := h.g2; omega), h.two⟩
end
end Go.Proofs.YthdehdlbocgfaaaDoor
