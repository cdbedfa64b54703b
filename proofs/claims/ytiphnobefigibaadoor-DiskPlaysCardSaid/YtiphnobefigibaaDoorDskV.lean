/- The document's disk: Sync, Delete, Append. Under the stated premises on sizes. -/
import Derived.Test.YtiphnobefigibaaDoorDskU
import Derived.Test.YtiphnobefigibaaDoorTxtR
namespace Go.Proofs.YtiphnobefigibaaDoor
open Go.RowKit Go.Bl
attribute [local go_sem ↓] Go.wp_at_zero Go.wp_at_succ

theorem sizeFl (w : World) : (sizeOf 68).run Tryd.prog w = .ok 3 w := by kernel_rfl
/-- The document's disk d. -/
def MdD (w : World) (m : Nat) (d : Dk) (F : Nat → Prop) : Prop := ∃ S, MdAt w m d.room S F ∧ Srt d S
theorem MdD.keep {w w' : World} {m : Nat} {d : Dk} {F G : Nat → Prop} (h : MdD w m d F) (hk : Keeps G w w') (hd : ∀ k, F k → ¬ G k) : MdD w' m d F := by
  obtain ⟨S, h, hs⟩ := h
  exact ⟨S, h.keep hk hd, hs⟩
theorem MdD.fresh {w w' : World} {m : Nat} {d : Dk} {F : Nat → Prop} (h : MdD w m d F) (hk : Below w.heap.size w w') : MdD w' m d F := h.keep (Keeps.of_fresh hk fun _ => False) (fun _ _ => id)
theorem MdD.lt {w : World} {m : Nat} {d : Dk} {F : Nat → Prop} (h : MdD w m d F) : ∀ k, F k → k < w.heap.size := by obtain ⟨S, h, _⟩ := h; exact h.lt
/-- What an act leaves. -/
def MOut (w w' : World) (m : Nat) (d' : Dk) (F : Nat → Prop) : Prop := Keeps F w w' ∧ MdD w' m d' (fun k => F k ∨ (w.heap.size ≤ k ∧ k < w'.heap.size))
theorem MdAt.wide {w : World} {m : Nat} {room : Int} {S : List Fl} {F : Nat → Prop} (h : MdAt w m room S F) (b : Nat) : MdAt w m room S (fun k => F k ∨ (b ≤ k ∧ k < w.heap.size)) := by
  obtain ⟨v, h⟩ := h
  exact ⟨v, h.blk, h.row, .inl h.fm, fun q hq => .inl (h.fv q hq), fun k hk => by rcases hk with hk | hk; exact h.lt k hk; exact hk.2⟩
theorem MOut.same {w w' : World} {m : Nat} {d : Dk} {F : Nat → Prop} (h : MdD w m d F) (hB : Below w.heap.size w w') : MOut w w' m d F := by
  obtain ⟨S, h, hs⟩ := h
  exact ⟨Keeps.of_fresh hB F, S, (h.fresh hB).wide w.heap.size, hs⟩
/-- Another row is laid. -/
theorem MdIn.put {w w1 w3 : World} {m : Nat} {room : Int} {S S' : List Fl} {F : Nat → Prop} {v v' : Value} (h : MdIn w1 m room S F v) (hF : ∀ k, F k → k < w.heap.size) (hk : Keeps F w w1) (hB : Below w1.heap.size w1 w3) (hO : Own w3 w1.heap.size 68 3 filc v' S') :
    Keeps F w (w3.setCell ⟨m, 0, none⟩ v') ∧ MdAt (w3.setCell ⟨m, 0, none⟩ v') m room S' (fun k => F k ∨ (w.heap.size ≤ k ∧ k < (w3.setCell ⟨m, 0, none⟩ v').heap.size)) := by
  have hm := hF m h.fm
  have z1 := hk.size
  have z3 := hB.size
  have hks : Keeps (fun q => q = m) w3 (w3.setCell ⟨m, 0, none⟩ v') := (Keeps.refl (fun q => q = m) w3).setCell (p := ⟨m, 0, none⟩) (fun _ => rfl) v'
  have z4 := hks.size
  refine ⟨(hk.fresh hB).andThen hks (fun i _ e => e ▸ h.fm), v', ?_, ?_, .inl h.fm, fun b hb => ?_, fun k hk => ?_⟩
  · exact setCell_block' (o := 0) (v := v') ((h.fresh hB).blk)
  · exact (hO.lower (Nat.zero_le _)).keep hks (fun b hb e => by have := (hO.lt b hb).1; omega)
  · have := hO.lt b hb
    exact .inr ⟨by omega, by omega⟩
  · rcases hk with hk | hk
    · have := hF k hk; omega
    · exact hk.2
/-- One cell of the row is written. -/
theorem MdIn.set {w w1 : World} {m g n c : Nat} {room : Int} {S : List Fl} {F : Nat → Prop} (h : MdIn w1 m room S F (.slice (some ⟨g, 0, none⟩) n c)) (hF : ∀ k, F k → k < w.heap.size) (hk : Keeps F w w1) {i : Nat} (hi : i < S.length) {j : Nat} (hj : j < 3) {x : Fl} {u : Value} (hx : filc x = (filc S[i]).set j u) :
    Keeps F w (w1.setCell ⟨g, i * 3 + j, none⟩ u) ∧ MdAt (w1.setCell ⟨g, i * 3 + j, none⟩ u) m room (S.set i x) (fun k => F k ∨ (w.heap.size ≤ k ∧ k < (w1.setCell ⟨g, i * 3 + j, none⟩ u).heap.size)) := by
  have hg : F g := h.fv g rfl
  have hgm : g ≠ m := fun e => h.vp (by rw [← e]; rfl)
  have hks : Keeps (fun q => q = g) w1 (w1.setCell ⟨g, i * 3 + j, none⟩ u) := (Keeps.refl (fun q => q = g) w1).setCell (p := ⟨g, i * 3 + j, none⟩) (fun _ => rfl) u
  have z4 := hks.size
  have z1 := hk.size
  exact ⟨hk.andThen hks (fun i _ e => e ▸ hg), _, hks.grownTo h.blk (fun e => hgm e.symm), h.row.set elFl.len hi hj hx, .inl h.fm, fun b hb => .inl (h.fv b hb), fun k hk => by
    rcases hk with hk | hk
    · have := hF k hk; omega
    · exact hk.2⟩
theorem MdIn.head {w : World} {m : Nat} {room : Int} {S : List Fl} {F : Nat → Prop} {v : Value} (h : MdIn w m room S F v) (h0 : 0 < S.length) : ∃ g c cur, v = .slice (some ⟨g, 0, none⟩) S.length c ∧ S.length ≤ c ∧ c ≤ maxLen ∧ w.heap[g]? = some (.cells cur 68 (0, 0)) := by
  rcases h.row.2 with ⟨_, hn⟩ | ⟨g, cap, cur, hv, _, hg, h1, h2, _⟩
  · omega
  · exact ⟨g, cap, cur, hv, h1, h2, hg⟩

set_option maxRecDepth 8000 in
set_option maxHeartbeats 2000000 in
theorem msync_any (w : World) (m : Nat) (d : Dk) (F : Nat → Prop) (h : MdD w m d F) (hl : d.L.length ≤ 1000) (x : ByteArray) :
    Calls Tryd.prog 30 #[.pointer (some ⟨m, 0, none⟩), .string x] w fun e w' => e = .returned (.int .i64 (if d.find x = none then 6 else 0)) ∧ MOut w w' m (d.sync x) F := by
  obtain ⟨S, hS, hs⟩ := h
  have hlen : S.length ≤ 1000 := by rw [hs.perm.length_eq]; exact hl
  have hfind := find_any w m d.room S F hS x (by omega)
  have HS := Lib.hid hS
  have Hs := Lib.hid hs
  have hal := aheadF_le S x
  cases hx : isF S x
  · have hn := hs.none hx
    rw [hx] at hfind
    rw [if_pos hn, sync_no_d hn]
    have HF := Lib.hid hfind
    clear hfind hx hS hs hn
    go_enter Tryd.func30, Tryd.ntmps30
    go_wp2_with fail
    refine HF.out.mono ?_
    rintro e w1 ⟨rfl, hB⟩
    go_wp2_with fail
    go_ret
    exact ⟨rfl, MOut.same ⟨S, HS.out, Hs.out⟩ hB⟩
  · obtain ⟨hk, hn⟩ := isF_yes hx
    have hso := hs.some hx (f := S[aheadF S x]) (fun _ => rfl)
    have hset := setS_eq hs.rise hx (g := syncF) (f := syncF S[aheadF S x]) (fun _ => rfl)
    have HSET := Lib.hid hset
    rw [hx] at hfind
    rw [if_neg (by rw [hso]; simp)]
    clear hso hx hS hs hset hn
    generalize aheadF S x = k at hk hfind hal HSET ⊢
    have HF := Lib.hid hfind
    clear hfind
    go_enter Tryd.func30, Tryd.ntmps30
    go_wp2_with fail
    refine HF.out.mono ?_
    rintro e w1 ⟨rfl, hB⟩
    obtain ⟨v, h1⟩ := HS.out.fresh hB
    obtain ⟨g, c, cur, rfl, hc1, hc2, hg⟩ := h1.head (by omega)
    unfold maxLen at hc2
    have c0 := h1.c0
    obtain ⟨b, o, e, _, _, hxx⟩ := (h1.row.sl elFl.len).cell_ hk
    injection e with e
    injection e with e1 e2 _
    subst e1 e2
    have x1 := hxx 1 _ rfl
    have x2 := hxx 2 _ rfl
    simp only [Nat.zero_add] at x1 x2
    have f2 : w1.frozen? ⟨g, k * 3 + 2, none⟩ = false := frozen_block hg _
    have hk0 : (0 : Int) ≤ (k : Int) := by omega
    have hk1 : (k : Int) < (S.length : Int) := by omega
    have HB := Lib.hid hB
    have H1 := Lib.hid h1
    clear hxx h1 hB hg
    go_wp2_with fail
    go_still_tail 16, (by kernel_rfl)
    change wpList _ _ _ _ _ w1.drew
    go_wp2_with fail
    go_ret
    have H2 : MdIn w1.drew m d.room S F (.slice (some ⟨g, 0, none⟩) S.length c) := H1.out.fresh ⟨rfl, rfl, rfl, Nat.le_refl _, fun _ _ => rfl⟩
    obtain ⟨q1, q2⟩ := H2.set HS.out.lt ((Keeps.of_fresh HB.out F).drew) hk (j := 2) (by decide) (x := syncF S[k]) (u := .int .i64 S[k].bytes.size) rfl
    refine ⟨rfl, q1, updL x syncF S, ?_, Hs.out.upd x (fun _ => rfl)⟩
    rw [← HSET.out]
    exact q2
set_option maxRecDepth 8000 in
set_option maxHeartbeats 2000000 in
theorem mdelete_any (w : World) (m : Nat) (d : Dk) (F : Nat → Prop) (h : MdD w m d F) (hl : d.L.length ≤ 1000) (x : ByteArray) :
    Calls Tryd.prog 32 #[.pointer (some ⟨m, 0, none⟩), .string x] w fun e w' => e = .returned (.int .i64 (if d.find x = none then 6 else 0)) ∧ MOut w w' m (d.del x) F := by
  obtain ⟨S, hS, hs⟩ := h
  have hlen : S.length ≤ 1000 := by rw [hs.perm.length_eq]; exact hl
  have hfind := find_any w m d.room S F hS x (by omega)
  have HS := Lib.hid hS
  have Hs := Lib.hid hs
  have hal := aheadF_le S x
  cases hx : isF S x
  · have hn := hs.none hx
    rw [hx] at hfind
    rw [if_pos hn, del_none hn]
    have HF := Lib.hid hfind
    clear hfind hx hS hs hn
    go_enter Tryd.func32, Tryd.ntmps32
    go_wp2_with fail
    refine HF.out.mono ?_
    rintro e w1 ⟨rfl, hB⟩
    go_wp2_with fail
    go_ret
    exact ⟨rfl, MOut.same ⟨S, HS.out, Hs.out⟩ hB⟩
  · obtain ⟨hk, hn⟩ := isF_yes hx
    have hso := hs.some hx (f := S[aheadF S x]) (fun _ => rfl)
    have hset := delS_eq hs.rise hx
    unfold delS at hset
    have HSET := Lib.hid hset
    rw [hx] at hfind
    rw [if_neg (by rw [hso]; simp)]
    clear hso hx hS hs hset hn
    generalize aheadF S x = k at hk hfind hal HSET ⊢
    have HF := Lib.hid hfind
    clear hfind
    go_enter Tryd.func32, Tryd.ntmps32
    go_wp2_with fail
    refine HF.out.mono ?_
    rintro e w1 ⟨rfl, hB⟩
    obtain ⟨v, h1⟩ := HS.out.fresh hB
    obtain ⟨A, c, rfl, hc1, hc2⟩ := h1.row.shape_ (n := S.length) rfl
    unfold maxLen at hc2
    have c0 := h1.c0
    have hm := h1.lt _ h1.fm
    have HSl := Lib.hid (h1.row.sl elFl.len)
    have HB := Lib.hid hB
    have H1 := Lib.hid h1
    clear h1 hB
    have hch : ∀ w : World, (Instr.slice 62 (.slice A S.length c) none (some (.int .i64 (k : Int))) none).run Tryd.prog w = .ok (.slice (cutA A c 0 3) k c) w := fun w => by
      simpa using run_cut_high (P := Tryd.prog) Tryd.underlying62 sizeFl A S.length c (k : Int) (by omega) (by omega) w
    have hcl : ∀ w : World, (Instr.slice 62 (.slice A S.length c) (some (.int .i64 ((k:Int)+1))) none none).run Tryd.prog w = .ok (.slice (cutA A c (k+1) 3) (S.length - (k+1)) (c - (k+1))) w := fun w => by
      have := run_cut_low (P := Tryd.prog) Tryd.underlying62 sizeFl A S.length c ((k:Int)+1) (by omega) (by omega) w
      rwa [show ((k:Int)+1).toNat = k+1 by omega] at this
    have hj2 : k ≤ S.length := by omega
    have hj3 : k + 1 ≤ S.length := hk
    have tok : True := trivial
    go_wp2_with (first
      | (have hx1 := hown1
         at_builtin
         refine elFl.append _ (by rfl) (.tmp 24) (.tmp 31) (by rfl) w1.heap.size _ (S.take k) (by rfl) hx1 _ _ (S.drop (k + 1)) (by rfl) ((HSl.out.drop_ hj3).fresh HBA.out) (by simp; omega) HBA.out.size ?_
         intro v3 w3 hown3 hg3 hat3
         obtain ⟨A3, c3, rfl, _, _⟩ := hown3.shape_ (n := (S.take k ++ S.drop (k + 1)).length) rfl
         have Hown3 := Lib.hid hown3
         have hbd : Below w1.heap.size w1 w3 := HBA.out.grown hg3 HBA.out.size (fun q hq => (hx1.lt q hq).1)
         have HBD := Lib.hid hbd
         have e0 := (hbd.cell (p := ⟨m, 0, none⟩) hm).trans c0
         have f0 : w3.frozen? ⟨m, 0, none⟩ = false := frozen_block (H1.out.fresh hbd).blk 0
         clear hown3 hown1 hx1 hbd)
      | (have t := tok
         at_builtin
         refine elFl.append _ (by rfl) (.tmp 16) (.tmp 22) (by rfl) w1.heap.size (.slice (some ⟨w1.heap.size, 0, none⟩) 0 0) [] (by rfl) (Own.made w1 (Nat.le_refl _) _ _ _) _ _ (S.take k) (by rfl) ((HSl.out.take_ hj2).fresh ((Below.refl _ _).alloc (Nat.le_refl _) _)) (by simp; omega) (by simp) ?_
         intro v1 w2 hown1 hg1 hat1
         rw [List.nil_append] at hown1
         have hba : Below w1.heap.size w1 w2 := ((Below.refl _ w1).alloc (Nat.le_refl _) _).grown hg1 (by simp) (fun q hq => by simp [Value.ownBlock] at hq; omega)
         have HBA := Lib.hid hba
         have d0 := (hba.cell (p := ⟨m, 0, none⟩) hm).trans c0
         clear tok t hba))
    go_ret
    obtain ⟨q1, q2⟩ := H1.out.put HS.out.lt (Keeps.of_fresh HB.out F) HBD.out Hown3.out
    have hle : k + (S.length - (k + 1)) = (S.take k ++ S.drop (k + 1)).length := by simp; omega
    rw [hle]
    refine ⟨rfl, q1, _, q2, ?_⟩
    rw [HSET.out]
    exact Hs.out.del x
end Go.Proofs.YtiphnobefigibaaDoor
