/- The index: Range. -/
import Derived.Test.YthdcnknjjbdefaaGreatDoorProg
import Derived.Test.YthdcnknjjbdefaaGreatDoorBlA
import Derived.Test.YthdcnknjjbdefaaGreatDoorRecA
import Derived.Test.YthdcnknjjbdefaaGreatDoorBlB
/- The index: what a block of it holds, and what New, Version, Pos, Events do. Under the stated premises on sizes. -/
namespace Go.Proofs.YthdcnknjjbdefaaGreatDoor.Idx
open Go.RowKit Go.Bl

structure Kp where
  pos : Int
  e : Ev
  deriving DecidableEq
def kpc (k : Kp) : List Value := [.int .i64 k.pos, .string k.e.kind, .string k.e.data]
/-- An event, its stream, its place. -/
structure One where
  stream : ByteArray
  pos : Int
  e : Ev
  deriving DecidableEq
def One.kp (o : One) : Kp := ⟨o.pos, o.e⟩
/-- What of a row of all events is of one stream. -/
def ofS (L : List One) (s : ByteArray) : List Kp := (L.filter fun o => o.stream = s).map One.kp
theorem ofS_append (L M : List One) (s : ByteArray) : ofS (L ++ M) s = ofS L s ++ ofS M s := by simp [ofS]
theorem ofS_le (L : List One) (s : ByteArray) : (ofS L s).length ≤ L.length := by simp only [ofS, List.length_map]; exact List.length_filter_le _ _

def strLit (s : ByteArray) : Lit := .string s.data.toList
theorem strLit_inj (a b : ByteArray) (h : strLit a = strLit b) : a = b := by
  obtain ⟨⟨x⟩⟩ := a
  obtain ⟨⟨y⟩⟩ := b
  simpa [strLit] using h
theorem law : Maps.Keyed Tryz.prog 9 := Maps.string_keyed Tryz.underlying9
theorem key_ok (s : ByteArray) (h : s.size ≤ maxLen) : keyOf Tryz.prog 9 (.string s) = some (strLit s) := WideMaps.keyOf_string_mk Tryz.underlying9 h
theorem zeroKs (w : World) : (zeroValue 131).run Tryz.prog w = .ok (.slice none 0 0) w := by kernel_rfl

/-- Block p of w is an index of the events L, whose number of events is ev; it lies in the blocks F. -/
structure IdxIn (w : World) (p : Nat) (L : List One) (ev : Int) (F : Nat → Prop) (bm : Nat) (V : ByteArray → Value) (n : Nat) : Prop where
  blk : w.heap[p]? = some (.cells #[.map (some bm), .int .i64 ev] 127 (0, 0))
  map : MapV w Tryz.prog 9 strLit bm n (fun s => if ofS L s = [] then none else some (V s))
  le : n ≤ L.length
  rows : ∀ s, w.ownsRow 0 134 3 (V s) (ofS L s).length ((ofS L s).flatMap kpc)
  nil : ∀ s, ofS L s = [] → V s = .slice none 0 0
  apart : ∀ s t b, (V s).ownBlock = some b → (V t).ownBlock = some b → s = t
  fp : F p
  fm : F bm
  fv : ∀ s b, (V s).ownBlock = some b → F b
  lt : ∀ k, F k → k < w.heap.size

def IdxAt (w : World) (p : Nat) (L : List One) (F : Nat → Prop) : Prop := ∃ bm V n, IdxIn w p L L.length F bm V n

theorem IdxIn.keep {w w' : World} {p : Nat} {L : List One} {ev : Int} {F G : Nat → Prop} {bm : Nat} {V : ByteArray → Value} {n : Nat} (h : IdxIn w p L ev F bm V n) (hk : Keeps G w w') (hd : ∀ k, F k → ¬ G k) : IdxIn w' p L ev F bm V n := by
  refine ⟨hk.grownTo h.blk (hd _ h.fp), h.map.keep hk (hd _ h.fm), h.le, fun s => ?_, h.nil, h.apart, h.fp, h.fm, h.fv, fun k hF => Nat.lt_of_lt_of_le (h.lt k hF) hk.size⟩
  obtain ⟨h1, h2⟩ := h.rows s
  refine ⟨h1, ?_⟩
  rcases h2 with h2 | ⟨g, cap, cur, e1, e2, e3, e4⟩
  · exact .inl h2
  · exact .inr ⟨g, cap, cur, e1, e2, hk.grownTo e3 (hd _ (h.fv s g (by rw [e1]; rfl))), e4⟩
theorem IdxAt.keep {w w' : World} {p : Nat} {L : List One} {F G : Nat → Prop} (h : IdxAt w p L F) (hk : Keeps G w w') (hd : ∀ k, F k → ¬ G k) : IdxAt w' p L F := by
  obtain ⟨bm, V, n, h⟩ := h
  exact ⟨bm, V, n, h.keep hk hd⟩
theorem IdxAt.fresh {w w' : World} {p : Nat} {L : List One} {F : Nat → Prop} (h : IdxAt w p L F) (hk : Below w.heap.size w w') : IdxAt w' p L F :=
  h.keep (Keeps.of_fresh hk fun _ => False) (fun _ _ => id)

theorem ownsRow_nil_any (w : World) (base : Nat) (e : TypeId) (k : Nat) : w.ownsRow base e k (.slice none 0 0) 0 [] := World.ownsRow_nil w base e k

theorem row_shape {w : World} {base : Nat} {e : TypeId} {k : Nat} {v : Value} {n : Nat} {xs : List Value} (h : w.ownsRow base e k v n xs) : ∃ a c, v = .slice a n c ∧ n ≤ c ∧ c ≤ maxLen := by
  rcases h.2 with ⟨rfl, rfl⟩ | ⟨g, cap, cur, rfl, _, _, h1, h2, _⟩
  · exact ⟨_, _, rfl, Nat.le_refl _, by unfold maxLen; omega⟩
  · exact ⟨_, _, rfl, h1, h2⟩

section
variable {w : World} {p : Nat} {L : List One} {ev : Int} {F : Nat → Prop} {bm : Nat} {V : ByteArray → Value} {n : Nat}
theorem IdxIn.c0 (h : IdxIn w p L ev F bm V n) : w.cell? ⟨p, 0, none⟩ = some (.map (some bm)) := cell_of_row w p 0 _ _ _ h.blk
theorem IdxIn.c1 (h : IdxIn w p L ev F bm V n) : w.cell? ⟨p, 1, none⟩ = some (.int .i64 ev) := cell_of_row w p 1 _ _ _ h.blk
theorem IdxIn.look (h : IdxIn w p L ev F bm V n) (s : ByteArray) (hs : s.size ≤ maxLen) : (Instr.lookup 125 (.map (some bm)) (.string s) false).run Tryz.prog w = .ok (V s) w := by
  rw [h.map.look law Tryz.underlying125 (zeroKs w) (key_ok s hs)]
  by_cases e : ofS L s = []
  · simp [e, h.nil s e]
  · simp [e]
theorem IdxIn.sl (h : IdxIn w p L ev F bm V n) (s : ByteArray) : Sl w F 3 kpc (V s) (ofS L s) := (Sl.of_own (enc := kpc) (fun _ => rfl) (h.rows s)).mono fun k _ hk => h.fv s k hk
end

set_option maxHeartbeats 400000 in
theorem new_any (w : World) : Calls Tryz.prog 59 #[] w fun e w' => e = .returned (.pointer (some ⟨w.heap.size + 1, 0, none⟩)) ∧
    IdxAt w' (w.heap.size + 1) [] (fun k => w.heap.size ≤ k ∧ k < w'.heap.size) ∧ Below w.heap.size w w' := by
  have hmm := @run_makeMap Tryz.prog
  go_enter Tryz.func59, Tryz.ntmps59
  go_wp2
  go_ret
  refine ⟨rfl, ⟨w.heap.size, fun _ => .slice none 0 0, 0, ?_⟩, ((Below.refl _ _).alloc (Nat.le_refl _) _).alloc (by simp) _⟩
  refine ⟨?_, ?_, Nat.le_refl _, fun s => World.ownsRow_nil _ _ _ _, fun _ _ => rfl, ?_, by simp, by simp; omega, ?_, fun k hk => hk.2⟩
  · have := heap_alloc_new (w.alloc (.map #[] 0)) (.cells #[.map (some w.heap.size), .int .i64 0] 127)
    simpa using this
  · have := MapV.made w Tryz.prog 9 strLit
    simpa [ofS] using this.keep (G := fun _ => False) ((Keeps.refl _ _).alloc _) id
  · intro s t b h; simp [Value.ownBlock] at h
  · intro s b h; simp [Value.ownBlock] at h

set_option maxHeartbeats 400000 in
theorem version_any (w : World) (p : Nat) (L : List One) (F : Nat → Prop) (h : IdxAt w p L F) (s : ByteArray) (hs : s.size ≤ maxLen) :
    Calls Tryz.prog 75 #[.pointer (some ⟨p, 0, none⟩), .string s] w fun e w' => e = .returned (.int .i64 (ofS L s).length) ∧ w = w' := by
  obtain ⟨bm, V, n, h⟩ := h
  have c0 := h.c0
  have hl := h.look s hs
  obtain ⟨a, c, hv, _⟩ := row_shape (h.rows s)
  rw [hv] at hl
  clear hv h
  go_enter Tryz.func75, Tryz.ntmps75
  go_wp2
  go_ret
  exact ⟨rfl, rfl⟩

def posOf (l : List Kp) (n : Int) : Int := if n < 1 ∨ (l.length : Int) < n then 0 else ((l[(n - 1).toNat]?).map Kp.pos).getD 0

end Go.Proofs.YthdcnknjjbdefaaGreatDoor.Idx

namespace Go.Proofs.YthdcnknjjbdefaaGreatDoor.Idx
open Go.RowKit Go.Bl

theorem sizeKept (w : World) : (sizeOf 134).run Tryz.prog w = .ok 3 w := by kernel_rfl
theorem infoEv : (Tryz.prog.info? 68).map (fun i => (i.zero, i.size, i.bytes)) = some (some (.agg #[.string ByteArray.empty, .string ByteArray.empty]), 2, 32) := by kernel_rfl

set_option maxHeartbeats 400000 in
theorem range_any (w : World) (p : Nat) (L : List One) (F : Nat → Prop) (h : IdxAt w p L F) (s : ByteArray) (hs : s.size ≤ maxLen) (fr most : Int) (hb : L.length ≤ 1073741824) :
    Calls Tryz.prog 80 #[.pointer (some ⟨p, 0, none⟩), .string s, .int .i64 fr, .int .i64 most] w fun e w' => ∃ v, e = .returned v ∧ Below w.heap.size w w' ∧
      Sl w' (fun b => w.heap.size ≤ b) 2 evc v ((((ofS L s).drop (max fr 1 - 1).toNat).take most.toNat).map Kp.e) := by
  obtain ⟨bm, V, n, h⟩ := h
  have c0 := h.c0
  have hl := h.look s hs
  have hS := h.sl s
  have hle := ofS_le L s
  generalize ofS L s = l at hS hle ⊢
  obtain ⟨A, c, hv, h1, h2⟩ := hS.shape
  rw [hv] at hl hS
  have hF1 : 1 ≤ gmin (gmax fr 1) ((l.length : Int) + 1) := by simp only [gmin_def, gmax_def]; omega
  have hF2 : gmin (gmax fr 1) ((l.length : Int) + 1) ≤ (l.length : Int) + 1 := by simp only [gmin_def]; omega
  have hcut := run_cut_low (P := Tryz.prog) Tryz.underlying131 sizeKept A l.length c (gmin (gmax fr 1) ((l.length : Int) + 1) - 1) (by omega) (by omega)
  have hD := hS.drop_ (i := (gmin (gmax fr 1) ((l.length : Int) + 1) - 1).toNat) (by omega)
  have hdrop : l.drop (gmin (gmax fr 1) ((l.length : Int) + 1) - 1).toNat = l.drop (max fr 1 - 1).toNat := by
    by_cases hx : max fr 1 ≤ l.length + 1
    · simp only [gmin_def, gmax_def]; rw [Int.min_eq_left hx]
    · rw [List.drop_eq_nil_of_le (by simp only [gmin_def, gmax_def]; omega), List.drop_eq_nil_of_le (by omega)]
  rw [hdrop] at hD
  have hlen : ((l.length - (gmin (gmax fr 1) ((l.length : Int) + 1) - 1).toNat : Nat)) = (l.drop (max fr 1 - 1).toNat).length := hD.len_
  have hdl : (l.drop (max fr 1 - 1).toNat).length ≤ l.length := by rw [List.length_drop]; omega
  generalize l.drop (max fr 1 - 1).toNat = d at hD hlen hdl ⊢
  rw [hlen] at hcut hD
  generalize cutA A c (gmin (gmax fr 1) ((l.length : Int) + 1) - 1).toNat 3 = A' at hcut hD
  generalize c - (gmin (gmax fr 1) ((l.length : Int) + 1) - 1).toNat = c' at hcut hD
  have HD := Lib.hid hD
  have hmx := @run_gmax Tryz.prog
  have hmn := @run_gmin Tryz.prog
  clear hdrop hlen hv h hs hD hS
  unfold maxLen at h2
  go_enter Tryz.func80, Tryz.ntmps80
  go_wp2_with fail
  clear hmx hmn hcut hl c0
  obtain ⟨i0, hi0, hz0, hz1, hz2⟩ := info_parts infoEv
  go_loopw [10, 30] (fun v i wr => ∃ k : Nat, k ≤ d.length ∧ (k : Int) ≤ max most 0 ∧ i = .int .i64 k ∧ wr.ownsRow w.heap.size 68 2 v k (((d.take k).map Kp.e).flatMap evc) ∧ Below w.heap.size w wr) (fun _ i _ => d.length - (intOf i).toNat)
  case atStart => exact ⟨0, Nat.zero_le _, by omega, rfl, World.ownsRow_nil _ _ _ _, Below.refl _ _⟩
  case round =>
    obtain ⟨k, hk, hm, rfl, hrow, hB⟩ := hrel
    obtain ⟨a1, c1, rfl, hc1, hc2⟩ := row_shape hrow
    have Hrow := Lib.hid hrow
    clear hrow
    have hsz := hB.size
    by_cases hlt : k < d.length
    · obtain ⟨b, o, rfl, _, hbl, hc⟩ := HD.out.cell_ hlt
      have e0 := (hB.cell (p := ⟨b, _, none⟩) hbl).trans (hc 0 _ rfl)
      have e1 := (hB.cell (p := ⟨b, _, none⟩) hbl).trans (hc 1 _ rfl)
      have e2 := (hB.cell (p := ⟨b, _, none⟩) hbl).trans (hc 2 _ rfl)
      simp only [Nat.add_zero] at e0
      clear hc
      by_cases hmo : most ≤ (k : Int)
      · go_wp2_with fail
        go_ret
        have hB' := hB.alloc hsz (.cells #[.int .i64 d[k].pos, .string d[k].e.kind, .string d[k].e.data] 134)
        have hkm : most.toNat = k := by omega
        have h := (Hrow.out.alloc (.cells #[.int .i64 d[k].pos, .string d[k].e.kind, .string d[k].e.data] 134))
        have hl : ((d.take k).map Kp.e).length = k := by simp; omega
        rw [hkm]
        refine ⟨_, rfl, hB', ?_⟩
        have := Sl.of_own (enc := evc) (l := (d.take k).map Kp.e) (fun _ => rfl) (by rw [hl]; exact h)
        exact this.mono fun q hq hv => (h.lt q hv).1
      · have hnews : ∀ (j : Nat) (u : Value), ([.string d[k].e.kind, .string d[k].e.data] : List Value)[j]? = some u → ((wr.alloc (.cells #[.int .i64 d[k].pos, .string d[k].e.kind, .string d[k].e.data] 134)).alloc (.cells #[.string d[k].e.kind, .string d[k].e.data] 68)).cell? ((⟨wr.heap.size + 1, 0, none⟩ : Addr).add j) = some u := by
          have := World.news_of_block (cs := #[.string d[k].e.kind, .string d[k].e.data]) (t := 68) (fr := (0, 0)) (heap_alloc_new (wr.alloc (.cells #[.int .i64 d[k].pos, .string d[k].e.kind, .string d[k].e.data] 134)) _)
          simpa using this
        have Hnews := Lib.hid hnews
        clear hnews
        go_wp2_with (at_builtin; refine wpList_append_own _ rfl _ _ 30 rfl w.heap.size 68 i0 _ 2 32 Tryz.underlying30 hi0 hz0 hz1 hz2 rfl (by decide) _ _ _ rfl ((Hrow.out.alloc _).alloc _) ⟨wr.heap.size + 1, 0, none⟩ 1 1 [.string d[k].e.kind, .string d[k].e.data] rfl rfl Hnews.out (by simp [Value.oneCell']) (by unfold maxLen; omega) (by omega) (by simp; omega) ?_; intro v' w1 hown' hgrow _; have Hown := Lib.hid hown'; clear hown')
        go_roundw
        case rel =>
          refine ⟨k + 1, by omega, by omega, by go_num, ?_, ?_⟩
          · have := Hown.out
            rw [List.take_succ_eq_append_getElem hlt, List.map_append, List.flatMap_append]
            exact this
          · exact ((hB.alloc hsz _).alloc (by simp; omega) _).grown hgrow (by simp; omega) (fun q hq => (Hrow.out.lt q hq).1)
        case measure => simp [intOf]; omega
    · have hkd : k = d.length := by omega
      subst hkd
      go_wp2_with fail
      go_ret
      have h := Hrow.out
      have hl : (d.map Kp.e).length = d.length := by simp
      rw [List.take_of_length_le (Nat.le_refl _)] at h
      rw [List.take_of_length_le (by omega)]
      refine ⟨_, rfl, hB, ?_⟩
      have := Sl.of_own (enc := evc) (l := d.map Kp.e) (fun _ => rfl) (by rw [hl]; exact h)
      exact this.mono fun q hq hv => (h.lt q hv).1
end Go.Proofs.YthdcnknjjbdefaaGreatDoor.Idx
