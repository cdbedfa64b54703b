/- What was put is taken: record.TakeRow. Under the tables that utf8 lays. -/
import Derived.Test.YtimfoijajafdpaaDoorCodX
import Derived.Test.YtimfoijajafdpaaDoorRecJ
import Derived.Test.YtimfoijajafdpaaDoorCodT
import Derived.Test.YtimfoijajafdpaaDoorCodD
namespace Go.Proofs.YtimfoijajafdpaaDoor
open Go.RowKit Go.Bl
attribute [local go_sem ↓] Go.wp_at_zero Go.wp_at_succ

/-- The rows taken so far: the entries L, like those of l; their events lie apart from the row. -/
def TookL (w : World) (B : Nat) (v : Value) (L : List EntS) (l : List Ent) : Prop :=
  Own w B 29 7 ensc v L ∧ L.length = l.length ∧ (∀ i (h : i < L.length) (h' : i < l.length), sameEnt L[i].val l[i] = true) ∧ ∀ x ∈ L, Sl w (fun b => v.ownBlock ≠ some b) 2 evc x.val.evv x.val.evs
theorem TookL.fresh {w w' : World} {B : Nat} {v : Value} {L : List EntS} {l : List Ent} (h : TookL w B v L l) (hB : Below w.heap.size w w') : TookL w' B v L l :=
  ⟨h.1.fresh hB, h.2.1, h.2.2.1, fun x hx => (h.2.2.2 x hx).fresh hB⟩
theorem TookL.nil (w : World) (B : Nat) : TookL w B (.slice none 0 0) [] [] := ⟨Own.nil_ _ _ _ _ _, rfl, fun i h => absurd h (by simp), fun x hx => absurd hx (by simp)⟩
theorem TookL.row {w : World} {B : Nat} {v : Value} {L : List EntS} {l : List Ent} (h : TookL w B v L l) : RowEvs w (fun _ => True) v (L.map fun x => x.val) ∧ sameRow (L.map fun x => x.val) l = true := by
  refine ⟨⟨((sl_map (enc := entc) (fun x : EntS => x.val)).1 (h.1.sl (fun _ => rfl))).mono (fun _ _ _ => trivial), fun a ha => ?_⟩, ?_⟩
  · obtain ⟨x, hx, rfl⟩ := List.mem_map.1 ha
    exact (h.2.2.2 x hx).mono (fun _ _ _ => trivial)
  · rw [sameRow_iff]
    refine ⟨by rw [List.length_map]; exact h.2.1, fun i hi hi' => ?_⟩
    rw [List.getElem_map]
    exact h.2.2.1 i (by simpa using hi) hi'
/-- One more. -/
theorem TookL.snoc {w w' : World} {B : Nat} {v v' : Value} {L : List EntS} {l : List Ent} {x : EntS} {a : Ent} (h : TookL w B v L l) (hx : sameEnt x.val a = true) (hs : Sl w (fun b => v.ownBlock ≠ some b) 2 evc x.val.evv x.val.evs)
    (hO : Own w' B 29 7 ensc v' (L ++ [x])) (hg : w.grownBy w' v.ownBlock) (hat : AtOf w v v') : TookL w' B v' (L ++ [x]) (l ++ [a]) := by
  refine ⟨hO, by simp [h.2.1], fun i hi hi' => ?_, fun z hz => ?_⟩
  · by_cases hil : i < L.length
    · rw [List.getElem_append_left hil, List.getElem_append_left (by rw [← h.2.1]; exact hil)]
      exact h.2.2.1 i hil _
    · have hie : i = L.length := by simp at hi; omega
      subst hie
      rw [List.getElem_append_right (Nat.le_refl _), List.getElem_append_right (by rw [h.2.1]; exact Nat.le_refl _)]
      simpa [h.2.1] using hx
  · have hk : Sl w (fun b => v.ownBlock ≠ some b) 2 evc z.val.evv z.val.evs := by
      rcases List.mem_append.1 hz with q | q
      · exact h.2.2.2 z q
      · rw [List.mem_singleton.1 q]; exact hs
    refine (hk.bound.keep (Keeps.of_grown hg) (fun k _ hk e => hk.1 e)).mono (fun k _ hk e => ?_)
    rcases hat with q | q
    · rw [q] at e; exact hk.1 e
    · rw [q] at e
      have := hk.2
      injection e with e
      omega
def TookR (w : World) (l : List Ent) (more : List UInt8) (e : Ending) (w' : World) : Prop :=
  ∃ v L, e = .returned (.tuple #[v, .string (Bl more), .int .i64 0]) ∧ TookL w' w.heap.size v L l ∧ Below w.heap.size w w'
def TakeRow (w : World) (l : List Ent) (more : List UInt8) (s v er : Value) (wr : World) : Prop :=
  ∃ (k : Nat) (L : List EntS), k ≤ l.length ∧ s = .string (Bl ((l.drop k).flatMap entL ++ more)) ∧ er = .int .i64 0 ∧ TookL wr w.heap.size v L (l.take k) ∧ Below w.heap.size w wr
theorem sameEnt_at (a : Ent) (v : Value) : sameEnt ⟨a.pos, a.epoch, a.stream, a.expect, a.session, a.seq, v, a.evs⟩ a = true := sameEnt_yes ⟨rfl, rfl, rfl, rfl, rfl, rfl, rfl⟩
def lenOf (v : Value) : Nat := match v with | .slice _ n _ => n | _ => 0
set_option maxRecDepth 10000 in
set_option maxHeartbeats 4000000 in
theorem takeRow_ok (w : World) (hT : Tabs w) (l : List Ent) (hr : l.all rightB = true) (hl : l.length ≤ 40) (more : List UInt8) (hm : more.length ≤ 1000) :
    Calls Tryd.prog 24 #[.string (Bl (numL l.length ++ (l.flatMap entL ++ more))), .int .i64 l.length] w (TookR w l more) := by
  have hfl := flat_len entL 3100 l (fun a ha => entL_len (List.all_eq_true.1 hr a ha))
  have hfl2 : l.length * 3100 ≤ 40 * 3100 := Nat.mul_le_mul_right _ hl
  have c1 := take_num w l.length (by omega) (l.flatMap entL ++ more) (by rw [List.length_append]; omega)
  have C1 := Lib.hid c1
  have HT := Lib.hid hT
  have HR := Lib.hid hr
  have dn : decide ((l.length : Int) < (l.length : Int)) = false := by simp
  clear c1 hT hr
  go_enter Tryd.func24, Tryd.ntmps24
  go_wp2_with fail
  with_reducible refine C1.out.mono ?_
  rintro x w1 ⟨rfl, hB1⟩
  have HB1 := Lib.hid hB1
  clear hB1 C1
  go_wp2_with fail
  go_loopw [0, 8, 9, 10, 11, 12] (fun s er v _ _ _ wr => TakeRow w l more s v er wr) (fun _ _ v _ _ _ _ => l.length - lenOf v)
  case atStart => exact ⟨0, [], Nat.zero_le _, rfl, rfl, TookL.nil _ _, HB1.out⟩
  case round =>
    obtain ⟨k, L, hk, rfl, rfl, hL, hB⟩ := hrel
    have hLk : L.length = k := by have := hL.2.1; rw [List.length_take] at this; omega
    obtain ⟨Av, cv, rfl, hv1, hv2⟩ := hL.1.shape_ hLk
    have HL := Lib.hid hL
    have HB := Lib.hid hB
    have HLK := Lib.hid hLk
    clear hL hB hLk
    by_cases hlt : k < l.length
    · have d0 : decide ((k : Int) < (l.length : Int)) = true := by simp; omega
      have d1 : decide (k < l.length) = true := by simp; omega
      have hra := List.all_eq_true.1 HR.out l[k] (List.getElem_mem hlt)
      have hdr : (l.drop k).flatMap entL ++ more = entL l[k] ++ ((l.drop (k + 1)).flatMap entL ++ more) := by
        rw [List.drop_eq_getElem_cons hlt, List.flatMap_cons, List.append_assoc]
      have hfd := flat_len entL 3100 (l.drop (k + 1)) (fun a ha => entL_len (List.all_eq_true.1 HR.out a (List.mem_of_mem_drop ha)))
      rw [List.length_drop] at hfd
      have hfd2 : (l.length - (k + 1)) * 3100 ≤ 40 * 3100 := Nat.mul_le_mul_right _ (by omega)
      have hc := rtake_ok wr (HT.out.fresh HB.out) l[k] hra ((l.drop (k + 1)).flatMap entL ++ more) (by rw [List.length_append]; omega)
      rw [hdr]
      have HC := Lib.hid hc
      clear hdr hc hfd hra
      go_wp2_with fail
      with_reducible refine HC.out.mono ?_
      rintro x w6 ⟨v, rfl, hO6, hB6⟩
      obtain ⟨Ae, ce, rfl, _, _⟩ := hO6.shape_ rfl
      have HL6 := Lib.hid (HL.out.fresh hB6)
      have hown : ∀ b, (Value.slice Av k cv).ownBlock = some b → b < wr.heap.size := fun b hb => (HL.out.1.lt b hb).2
      have hse : Sl w6 (fun b => (Value.slice Av k cv).ownBlock ≠ some b) 2 evc (.slice Ae l[k].evs.length ce) l[k].evs := (hO6.sl elEvW.len).mono (fun b _ hb e => by have := (hO6.lt b hb).1; have := hown b e; omega)
      have HSE := Lib.hid hse
      have HB6 := Lib.hid (HB.out.trans (hB6.mono HB.out.size))
      clear hB6 hO6 hse hown
      go_upto_region 7 with (fail)
      have hb8 : Below w6.heap.size w6 (w6.alloc (.cells #[.int .i64 l[k].pos, .int .i64 l[k].epoch, .string l[k].stream, .int .i64 l[k].expect, .int .i64 l[k].session, .int .i64 l[k].seq, .slice Ae l[k].evs.length ce] 29)) := (Below.refl _ w6).alloc (Nat.le_refl _) _
      have hn8 := heap_alloc_new w6 (.cells #[.int .i64 l[k].pos, .int .i64 l[k].epoch, .string l[k].stream, .int .i64 l[k].expect, .int .i64 l[k].session, .int .i64 l[k].seq, .slice Ae l[k].evs.length ce] 29)
      generalize w6.alloc (.cells #[.int .i64 l[k].pos, .int .i64 l[k].epoch, .string l[k].stream, .int .i64 l[k].expect, .int .i64 l[k].session, .int .i64 l[k].seq, .slice Ae l[k].evs.length ce] 29) = w8 at hb8 hn8 ⊢
      have HL8 := Lib.hid (HL6.out.fresh hb8)
      have HSE8 := Lib.hid (HSE.out.fresh hb8)
      have HB8 := Lib.hid (HB6.out.trans (hb8.mono HB6.out.size))
      have z0 : w8.cell? ⟨w6.heap.size, 0, none⟩ = some (.int .i64 l[k].pos) := cell_of_row w8 _ 0 _ _ _ hn8
      have z1 : w8.cell? ⟨w6.heap.size, 1, none⟩ = some (.int .i64 l[k].epoch) := cell_of_row w8 _ 1 _ _ _ hn8
      have z2 : w8.cell? ⟨w6.heap.size, 2, none⟩ = some (.string l[k].stream) := cell_of_row w8 _ 2 _ _ _ hn8
      have z3 : w8.cell? ⟨w6.heap.size, 3, none⟩ = some (.int .i64 l[k].expect) := cell_of_row w8 _ 3 _ _ _ hn8
      have z4 : w8.cell? ⟨w6.heap.size, 4, none⟩ = some (.int .i64 l[k].session) := cell_of_row w8 _ 4 _ _ _ hn8
      have z5 : w8.cell? ⟨w6.heap.size, 5, none⟩ = some (.int .i64 l[k].seq) := cell_of_row w8 _ 5 _ _ _ hn8
      have z6 : w8.cell? ⟨w6.heap.size, 6, none⟩ = some (.slice Ae l[k].evs.length ce) := cell_of_row w8 _ 6 _ _ _ hn8
      have hs8 := HB8.out.size
      obtain ⟨x, hx⟩ : ∃ x : EntS, x.val = ⟨l[k].pos, l[k].epoch, l[k].stream, l[k].expect, l[k].session, l[k].seq, .slice Ae l[k].evs.length ce, l[k].evs⟩ := ⟨⟨_, rfl⟩, rfl⟩
      have HX := Lib.hid hx
      have hxc : (#[.int .i64 l[k].pos, .int .i64 l[k].epoch, .string l[k].stream, .int .i64 l[k].expect, .int .i64 l[k].session, .int .i64 l[k].seq, .slice Ae l[k].evs.length ce] : Array Value).toList = ensc x := by unfold ensc; rw [hx]; rfl
      have HXC := Lib.hid hxc
      clear hb8 hn8 hx hxc
      go_wp2_with (at_builtin; refine elEns.append _ (by rfl) _ _ rfl w.heap.size _ L rfl (HL8.out.1.fresh ((Below.refl _ _).alloc (Nat.le_refl _) _)) _ _ [x] rfl (Sl.single (heap_alloc_new _ _) HXC.out) ?_ ?_ ?_; (have := HLK.out; simp only [List.length_singleton]; omega); (simp only [World.size_alloc]; omega); intro v' w9 hown' hgrow hat; (obtain ⟨Av', cv', rfl, _, _⟩ := hown'.shape_ (show (L ++ [x]).length = k + 1 by have := HLK.out; simp; omega)); have HO9 := Lib.hid hown'; have HGR := Lib.hid hgrow; have HAT := Lib.hid hat; clear hown' hgrow hat)
      go_roundw
      case rel =>
        have hal : Below w8.heap.size w8 (w8.alloc (.cells #[.int .i64 l[k].pos, .int .i64 l[k].epoch, .string l[k].stream, .int .i64 l[k].expect, .int .i64 l[k].session, .int .i64 l[k].seq, .slice Ae l[k].evs.length ce] 29)) := (Below.refl _ w8).alloc (Nat.le_refl _) _
        refine ⟨k + 1, L ++ [x], hlt, rfl, rfl, ?_, (HB8.out.trans (hal.mono HB8.out.size)).grown HGR.out (by simp; omega) (fun b hb => (HL8.out.1.lt b hb).1)⟩
        rw [List.take_succ_eq_append_getElem hlt]
        exact TookL.snoc (HL8.out.fresh hal) (by rw [HX.out]; exact sameEnt_at _ _) (by rw [HX.out]; exact HSE8.out.fresh hal) HO9.out HGR.out HAT.out
      case measure => simp [lenOf]; omega
    · have hkd : k = l.length := by omega
      subst hkd
      have d1 : decide (l.length < l.length) = false := by simp
      rw [List.drop_length, List.flatMap_nil, List.nil_append]
      have hL := HL.out
      rw [List.take_length] at hL
      have HL2 := Lib.hid hL
      clear hL
      go_wp2_with fail
      go_ret3
      exact ⟨_, L, rfl, HL2.out, HB.out⟩
set_option maxRecDepth 10000 in
set_option maxHeartbeats 1000000 in
theorem takeRow_long (w : World) (n : Nat) (hn : n ≤ 40) (r : List UInt8) (hr : r.length ≤ 1000000) :
    Calls Tryd.prog 24 #[.string (Bl (numL n ++ r)), .int .i64 ((n : Int) - 1)] w fun e w' => e = .returned (.tuple #[.slice none 0 0, .string ⟨#[]⟩, .int .i64 4]) ∧ Below w.heap.size w w' := by
  have c1 := take_num w n (by omega) r (by omega)
  have C1 := Lib.hid c1
  have d0 : decide ((n : Int) - 1 < (n : Int)) = true := by simp; omega
  clear c1
  go_enter Tryd.func24, Tryd.ntmps24
  go_wp2_with fail
  with_reducible refine C1.out.mono ?_
  rintro x w1 ⟨rfl, hB1⟩
  go_wp2_with fail
  go_loopw [0, 8, 9, 10, 11, 12] (fun s er v _ _ _ wr => s = .string (Bl r) ∧ er = .int .i64 4 ∧ v = .slice none 0 0 ∧ wr = w1) (fun _ _ _ _ _ _ _ => 0)
  case atStart => exact ⟨rfl, rfl, rfl, rfl⟩
  case round =>
    obtain ⟨rfl, rfl, rfl, rfl⟩ := hrel
    go_wp2_with fail
    go_ret3
    exact ⟨rfl, hB1⟩
end Go.Proofs.YtimfoijajafdpaaDoor
