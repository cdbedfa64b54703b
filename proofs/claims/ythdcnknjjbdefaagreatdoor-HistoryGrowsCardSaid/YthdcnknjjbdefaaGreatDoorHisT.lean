/- The history: rows of ops that grow. Under the stated premises on sizes. -/
import Derived.Test.YthdcnknjjbdefaaGreatDoorHisM
import Derived.Test.YthdcnknjjbdefaaGreatDoorHisH
import Derived.Test.YthdcnknjjbdefaaGreatDoorHisN
/- The history: the statements' examples: one, shown. Under the tables that utf8 lays. -/
namespace Go.Proofs.YthdcnknjjbdefaaGreatDoor.His
open Go.RowKit Go.Bl
attribute [local go_sem ↓] Go.wp_at_zero Go.wp_at_succ

/-- A row of ops, made at once. -/
theorem sl_row {α : Type} {w : World} {g n : Nat} {e : TypeId} {k : Nat} {enc : α → List Value} (hk : ∀ x, (enc x).length = k) {l : List α} (hl : l.length = n) (hn : n ≤ maxLen) (h : w.heap[g]? = some (.cells (l.flatMap enc).toArray e (0, 0))) : Sl w (fun b => b = g) k enc (.slice (some ⟨g, 0, none⟩) n n) l := by
  subst hl
  refine ⟨_, _, rfl, Nat.le_refl _, hn, fun _ => ⟨g, 0, rfl, rfl, (Array.getElem?_eq_some_iff.1 h).1, fun i hi j u hu => ?_⟩⟩
  have hj : j < k := by
    have := (List.getElem?_eq_some_iff.1 hu).1
    rwa [hk] at this
  rw [Nat.zero_add, cell_of_row w g _ _ _ _ h]
  have := flatMap_at enc k hk l i hi j hj
  rw [hu] at this
  simpa using this
theorem infoOp : (Tryz.prog.info? 36).map (fun i => (i.zero, i.size, i.bytes)) = some (some (.agg (opc Hop.zero).toArray), 17, (Tryz.prog.info? 36).elim 0 (·.bytes)) := by kernel_rfl
theorem op_bytes : (Tryz.prog.info? 36).elim 0 (·.bytes) ≤ 100000 := by decide +kernel
theorem op_build2 {w : World} {ops : Array Oper} {rest : List Oper} {op : Oper} {a : Act} {Q : Exit → Act → World → Prop} (hw : Region.wanted op (yielded ops a.tmps) = true) (x y : Nat) (ho : op.op = .buildSlice 28 2 #[(0, .tmp x), (1, .tmp y)]) (p q : Hop) (hx : a.eval (.tmp x) = .agg (opc p).toArray) (hy : a.eval (.tmp y) = .agg (opc q).toArray)
    (h : wpList Tryz.prog ops Q rest (a.put op.dst (.slice (some ⟨w.heap.size, 0, none⟩) 2 2)) (w.alloc (.cells ([p, q].flatMap opc).toArray 36))) : wpList Tryz.prog ops Q (op :: rest) a w := by
  unfold wpList
  rw [if_pos hw]
  refine .inl ?_
  obtain ⟨i0, hi, h1, h2, h3⟩ := info_parts infoOp
  refine wp_buildSlice 28 36 2 #[(0, .tmp x), (1, .tmp y)] ho ([p, q].flatMap opc).toArray i0 (.agg (opc Hop.zero).toArray) Tryz.underlying28 hi h1 (by rw [h2]; decide) (by rw [h2]; decide) ?_ h
  rw [h2]
  simp only [List.map_toArray, List.map_cons, List.map_nil, hx, hy]
  kernel_rfl
theorem op_storen {w : World} {ops : Array Oper} {rest : List Oper} {op : Oper} {a : Act} {Q : Exit → Act → World → Prop} (hgd : op.guard = none) (x y : Operand) (ho : op.op = .store 36 x y) (old : Array Value) (n : Nat) (hnw : n = w.heap.size) (hx : a.eval x = .pointer (some ⟨n, 0, none⟩)) (q : Hop) (hy : a.eval y = .agg (opc q).toArray) (hn : old.size = 17)
    (hd : op.dst = none) (h1 : (opc q).toArray.all (·.oneCell') = true) (h : wpList Tryz.prog ops Q rest a (w.alloc (.cells (opc q).toArray 36))) : wpList Tryz.prog ops Q (op :: rest) a (w.alloc (.cells old 36)) := by
  subst hnw
  exact op_store hgd x y ho old hx q hy hn hd h1 h
theorem op_loadg {w : World} {ops : Array Oper} {rest : List Oper} {op : Oper} {a : Act} {Q : Exit → Act → World → Prop} (hw : Region.wanted op (yielded ops a.tmps) = true) (x : Operand) (ho : op.op = .load 36 x) (b o : Nat) (hx : a.eval x = .pointer (some ⟨b, o, none⟩)) (q : Hop) (hc : w.rangeAt b o (opc q))
    (h : wpList Tryz.prog ops Q rest (a.put op.dst (.agg (opc q).toArray)) w) : wpList Tryz.prog ops Q (op :: rest) a w := by
  obtain ⟨d, h1, h2⟩ := hu36
  unfold wpList
  rw [if_pos hw]
  exact .inl (wp_load_mid 36 x ho b o hx (opc q) d hc h1 h2 (hi36 _) h)
set_option maxHeartbeats 1000000 in
theorem one_any (w : World) (pos seq : Int) : Calls Tryz.prog 25 #[.int .i64 pos, .int .i64 seq] w fun e w' => ∃ g, e = .returned (.agg #[.int .i64 pos, .int .i64 1, .string ⟨#[115]⟩, .int .i64 (-1), .int .i64 1, .int .i64 seq, .slice (some ⟨g, 0, none⟩) 1 1]) ∧ w.heap.size ≤ g ∧ Sl w' (fun b => b = g) 2 evc (.slice (some ⟨g, 0, none⟩) 1 1) [kEv] ∧ Below w.heap.size w w' := by
  go_enter Tryz.func25, Tryz.ntmps25
  go_upto_region 1 with (fail)
  have hB1 := (Below.refl w.heap.size w).alloc (Nat.le_refl _) (.cells #[.int .i64 0, .int .i64 0, .string ⟨#[]⟩, .int .i64 0, .int .i64 0, .int .i64 0, .slice none 0 0] 55)
  have hg1 := heap_alloc_new w (.cells #[.int .i64 0, .int .i64 0, .string ⟨#[]⟩, .int .i64 0, .int .i64 0, .int .i64 0, .slice none 0 0] 55)
  obtain ⟨g4, hg4⟩ : ∃ g, w.heap.size = g := ⟨_, rfl⟩
  rw [hg4] at hg1 ⊢
  generalize w.alloc (.cells #[.int .i64 0, .int .i64 0, .string ⟨#[]⟩, .int .i64 0, .int .i64 0, .int .i64 0, .slice none 0 0] 55) = w1 at hB1 hg1 ⊢
  have hB2 := (Below.refl w1.heap.size w1).alloc (Nat.le_refl _) (.cells #[.string ⟨#[107]⟩, .string ⟨#[]⟩] 68)
  have hg2 := (hB2.block g4 (Array.getElem?_eq_some_iff.1 hg1).1).trans hg1
  have hS2 : Sl (w1.alloc (.cells #[.string ⟨#[107]⟩, .string ⟨#[]⟩] 68)) (fun b => b = w1.heap.size) 2 evc (.slice (some ⟨w1.heap.size, 0, none⟩) 1 1) [kEv] := Sl.single (k := 2) (enc := evc) (x := kEv) (heap_alloc_new w1 (.cells #[.string ⟨#[107]⟩, .string ⟨#[]⟩] 68)) rfl
  have HG2 := Lib.hid hg2
  have HS2 := Lib.hid hS2
  have HB2 := Lib.hid (hB1.trans (hB2.mono hB1.size))
  have HZ1 : Hid (g4 < w1.heap.size ∧ w.heap.size ≤ w1.heap.size ∧ w.heap.size = g4) := Lib.hid ⟨(Array.getElem?_eq_some_iff.1 hg1).1, hB1.size, hg4⟩
  clear hB1 hg1 hB2 hg2 hS2 hg4
  go_wp2_with (refine wpList_store_row rfl 55 (.tmp 4) (.tmp 10) rfl g4 #[.int .i64 pos, .int .i64 1, .string ⟨#[115]⟩, .int .i64 (-1), .int .i64 1, .int .i64 seq, .slice (some ⟨w1.heap.size, 0, none⟩) 1 1] rfl rfl 55 _ HG2.out (by kernel_rfl) rfl (by simp [Value.oneCell']) ?_)
  have hk : Keeps (fun x => x = g4) (w1.alloc (.cells #[.string ⟨#[107]⟩, .string ⟨#[]⟩] 68)) ((w1.alloc (.cells #[.string ⟨#[107]⟩, .string ⟨#[]⟩] 68)).setRow g4 #[.int .i64 pos, .int .i64 1, .string ⟨#[115]⟩, .int .i64 (-1), .int .i64 1, .int .i64 seq, .slice (some ⟨w1.heap.size, 0, none⟩) 1 1]) := ⟨rfl, rfl, rfl, by simp, fun k _ hk => setRow_other _ g4 k _ hk⟩
  refine bodyPost_ret (v := .agg #[.int .i64 pos, .int .i64 1, .string ⟨#[115]⟩, .int .i64 (-1), .int .i64 1, .int .i64 seq, .slice (some ⟨w1.heap.size, 0, none⟩) 1 1]) (results_cell_row Tryz.results25 _ _ g4 55 _ (0, 0) _ rfl (setRow_heap _ g4 _ _ 55 (0, 0) HG2.out) Tryz.underlying55 rfl (by kernel_rfl)) rfl ⟨w1.heap.size, rfl, HZ1.out.2.1, ?_, ?_⟩
  · exact HS2.out.keep hk (fun x _ hx e => by have := HZ1.out.1; have e : x = g4 := e; omega)
  · exact Go.Bl.Below.keep HB2.out hk HB2.out.size (fun x hx => by have := HZ1.out.2.2; have hx : x = g4 := hx; omega)
theorem ord2 {ord : List Nat} (h : ord.Perm (List.range 2)) : ord = [0, 1] ∨ ord = [1, 0] := by
  have hl := h.length_eq
  have h0 := (h.mem_iff (a := 0)).2 (by decide)
  have h1 := (h.mem_iff (a := 1)).2 (by decide)
  match ord, hl with
  | [a, b], _ =>
    simp only [List.mem_cons, List.not_mem_nil, or_false] at h0 h1
    rcases h0 with rfl | rfl <;> rcases h1 with h1 | h1
    · cases h1
    · left; rw [← h1]
    · right; rw [← h1]
    · cases h1
theorem check_ord (w : World) (hT : Tabs w) (vl : Value) (log : List Ent) (h : EntsOk w (fun b => b < w.heap.size) vl log) (hok : LogOk log) (hl : log.length ≤ 100) (vo : Value) (ops : List Hop) (hS : Sl w (fun b => b < w.heap.size) 17 opc vo ops) (ho : ∀ o ∈ ops, OpOk w (fun b => b < w.heap.size) o) (h20 : ops.length ≤ 20) :
    Calls Tryz.prog 14 #[vl, vo] w fun e w' => ∃ ord, (gm log ops).Order ord ∧ e = .returned (.int .i64 ((gm log ops).run ord (fun _ => -1)).2) ∧ Below w.heap.size w w' := by
  have HA := Lib.hid (all_any w hT vl log h hok hl vo ops hS ho h20)
  clear hT h hok hl hS ho h20
  go_enter Tryz.func14, Tryz.ntmps14
  go_wp2_with fail
  refine HA.out.mono ?_
  rintro e w1 ⟨ord, v, h1, rfl, h3, _⟩
  have H1 := Lib.hid h1
  have H3 := Lib.hid h3
  clear h1 h3
  go_wp2_with fail
  go_ret
  exact ⟨ord, H1.out, rfl, H3.out⟩
def shA (g : Nat) : Hop := ⟨2, 1, 0, 5, ByteArray.empty, 0, 0, 0, .slice none 0 0, Ded.oc0, ⟨#[115]⟩, 0, 1, .slice (some ⟨g, 0, none⟩) 1 1, [kEv]⟩
def shB (s : Int) : Hop := ⟨2, 1, s, 7, ByteArray.empty, 0, 0, 0, .slice none 0 0, Ded.oc0, ⟨#[115]⟩, 0, 0, .slice none 0 0, []⟩
theorem sh_ok (v : Value) : (applyS St.new (firstE 1 1 (-1) 1 v)).2.2 = 0 := by kernel_rfl
theorem sh_log (v : Value) : LogOk [firstE 1 1 (-1) 1 v] := fun k hk => by
  have : k = 0 := by simpa using hk
  subst this
  exact sh_ok v
theorem sh_two (v : Value) (g : Nat) : ((gm [firstE 1 1 (-1) 1 v] [shA g, shB 6]).run [0, 1] (fun _ => -1)).2 = 2 := by kernel_rfl
theorem sh_none (v : Value) (g : Nat) : ((gm [firstE 1 1 (-1) 1 v] [shA g, shB 5]).run [0, 1] (fun _ => -1)).2 = 0 := by kernel_rfl
theorem sh_ord {v : Value} {g : Nat} {s : Int} (hs : 0 < s) {ord : List Nat} (h : (gm [firstE 1 1 (-1) 1 v] [shA g, shB s]).Order ord) : ord = [0, 1] := by
  rcases ord2 h.perm with e | e
  · exact e
  · subst e
    have := List.pairwise_cons.1 h.rise
    have h2 : s ≤ 0 := this.1 0 (by simp)
    omega
theorem ev_ok (e : Ev) (he : e ∈ List.replicate 1 kEv) : EvOk e := by
  rw [List.eq_of_mem_replicate he]
  refine ⟨?_, ?_⟩ <;> decide
theorem sh_two_all (g : Nat) : (opc (shA g)).toArray.all (·.oneCell') = true := by simp [opc, shA, Value.oneCell']
theorem sh_b_all (s : Int) : (opc (shB s)).toArray.all (·.oneCell') = true := by simp [opc, shB, Value.oneCell']
set_option maxRecDepth 10000 in
set_option maxHeartbeats 4000000 in
theorem shown_any (w : World) (hT : Tabs w) : Calls Tryz.prog 7 #[] w fun e w' => e = .returned (.bool true) ∧ Below w.heap.size w w' := by
  have HT := Lib.hid hT
  clear hT
  go_enter Tryz.func7, Tryz.ntmps7
  go_wp2_with fail
  refine (one_any w 1 1).mono ?_
  rintro e w1 ⟨gv, rfl, hgv, hS1, hB1⟩
  have hB2 := (Below.refl w1.heap.size w1).alloc (Nat.le_refl _) (.cells #[.int .i64 1, .int .i64 1, .string ⟨#[115]⟩, .int .i64 (-1), .int .i64 1, .int .i64 1, .slice (some ⟨gv, 0, none⟩) 1 1] 55)
  have hg2 := heap_alloc_new w1 (.cells #[.int .i64 1, .int .i64 1, .string ⟨#[115]⟩, .int .i64 (-1), .int .i64 1, .int .i64 1, .slice (some ⟨gv, 0, none⟩) 1 1] 55)
  go_upto_region 2 with (fail)
  obtain ⟨gl, hgl⟩ : ∃ g, w1.heap.size = g := ⟨_, rfl⟩
  rw [hgl] at hg2 ⊢
  generalize w1.alloc (.cells #[.int .i64 1, .int .i64 1, .string ⟨#[115]⟩, .int .i64 (-1), .int .i64 1, .int .i64 1, .slice (some ⟨gv, 0, none⟩) 1 1] 55) = w2 at hB2 hg2 ⊢
  obtain ⟨vl, hvl⟩ : ∃ v, Value.slice (some ⟨gv, 0, none⟩) 1 1 = v := ⟨_, rfl⟩
  rw [hvl] at hS1 hg2
  have hlog : EntsOk w2 (fun b => b < w2.heap.size) (.slice (some ⟨gl, 0, none⟩) 1 1) [firstE 1 1 (-1) 1 vl] := by
    refine ⟨(sl_row (n := 1) (k := 7) (enc := entc) (fun _ => rfl) (l := [firstE 1 1 (-1) 1 vl]) rfl (by unfold maxLen; omega) hg2).bound.mono (fun b _ hb => hb.2), fun a ha => ?_⟩
    rw [List.mem_singleton.1 ha]
    refine ⟨(hS1.fresh hB2).bound.mono (fun b _ hb => hb.2), fun e he => ev_ok e he, by show (1 : Nat) ≤ 1000000000000000; omega, by show -9223372036854775808 ≤ (1 : Int) ∧ (1 : Int) ≤ 9223372036854775807; omega⟩
  have HLOG := Lib.hid hlog
  have HB2 := Lib.hid (hB1.trans (hB2.mono hB1.size))
  clear hgv hS1 hB1 hB2 hg2 hgl hvl hlog
  have hBe := (Below.refl w2.heap.size w2).alloc (Nat.le_refl _) (.cells #[.string ⟨#[107]⟩, .string ⟨#[]⟩] 68)
  have hSe : Sl (w2.alloc (.cells #[.string ⟨#[107]⟩, .string ⟨#[]⟩] 68)) (fun b => b = w2.heap.size) 2 evc (.slice (some ⟨w2.heap.size, 0, none⟩) 1 1) [kEv] := Sl.single (k := 2) (enc := evc) (x := kEv) (heap_alloc_new w2 (.cells #[.string ⟨#[107]⟩, .string ⟨#[]⟩] 68)) rfl
  have hBa := (Below.refl (w2.alloc (.cells #[.string ⟨#[107]⟩, .string ⟨#[]⟩] 68)).heap.size _).alloc (Nat.le_refl _) (.cells (opc (shA w2.heap.size)).toArray 36)
  have hga := heap_alloc_new (w2.alloc (.cells #[.string ⟨#[107]⟩, .string ⟨#[]⟩] 68)) (.cells (opc (shA w2.heap.size)).toArray 36)
  go_upto_region 3 with (refine op_storen rfl (.tmp 2) (.tmp 9) rfl _ (w2.heap.size + 1) (World.size_alloc _ _).symm rfl (shA w2.heap.size) rfl rfl rfl (sh_two_all _) ?_)
  have HLOG3 := Lib.hid (EntsOk.grow HLOG.out (hBe.trans (hBa.mono hBe.size)))
  have HB3 := Lib.hid (HB2.out.trans ((hBe.trans (hBa.mono hBe.size)).mono HB2.out.size))
  have hSe3 := hSe.fresh hBa
  rw [World.size_alloc] at hga
  obtain ⟨ge, hgee⟩ : ∃ g, w2.heap.size = g := ⟨_, rfl⟩
  rw [hgee] at hga hSe3 HLOG3 HB3 ⊢
  generalize (w2.alloc (.cells #[.string ⟨#[107]⟩, .string ⟨#[]⟩] 68)).alloc (.cells (opc (shA ge)).toArray 36) = w3 at hga hSe3 HLOG3 HB3 ⊢
  have HGA := Lib.hid hga
  have HSE := Lib.hid hSe3
  clear hBe hSe hBa hga hSe3 hgee HLOG
  have hB4 := (Below.refl w3.heap.size w3).alloc (Nat.le_refl _) (.cells (opc (shB 6)).toArray 36)
  have hg4 := heap_alloc_new w3 (.cells (opc (shB 6)).toArray 36)
  go_upto_region 4 with (refine op_store rfl (.tmp 3) (.tmp 10) rfl _ rfl (shB 6) rfl rfl rfl (sh_b_all _) ?_)
  obtain ⟨gb, hgb⟩ : ∃ g, w3.heap.size = g := ⟨_, rfl⟩
  rw [hgb] at hg4 ⊢
  generalize w3.alloc (.cells (opc (shB 6)).toArray 36) = w4 at hB4 hg4 ⊢
  have HB4 := Lib.hid hB4
  have HGB := Lib.hid hg4
  have HLB := Lib.hid (load_box hg4)
  have HGBW : Hid (gb < w4.heap.size ∧ w3.heap.size = gb) := Lib.hid ⟨(Array.getElem?_eq_some_iff.1 hg4).1, hgb⟩
  clear hB4 hg4 hgb
  have hB5 := (Below.refl w4.heap.size w4).alloc (Nat.le_refl _) (.cells (opc (shB 6)).toArray 36)
  have hg5 := heap_alloc_new w4 (.cells (opc (shB 6)).toArray 36)
  go_upto_region 5 with (first | (refine op_load rfl (.tmp 3) rfl gb 0 rfl (shB 6) HLB.out ?_) | (refine op_store rfl (.tmp 4) (.tmp 11) rfl _ rfl (shB 6) rfl rfl rfl (sh_b_all _) ?_))
  obtain ⟨gc, hgc⟩ : ∃ g, w4.heap.size = g := ⟨_, rfl⟩
  rw [hgc] at hg5 ⊢
  generalize w4.alloc (.cells (opc (shB 6)).toArray 36) = w5 at hB5 hg5 ⊢
  have y2 : w5.cell? ⟨gc, 2, none⟩ = some (.int .i64 6) := cell_of_row w5 gc 2 _ _ _ hg5
  have f2 : w5.frozen? ⟨gc, 2, none⟩ = false := frozen_block hg5 2
  have hg6 : (w5.setCell ⟨gc, 2, none⟩ (.int .i64 5)).heap[gc]? = some (.cells (opc (shB 5)).toArray 36 (0, 0)) := setCell_block' (o := 2) hg5 _
  have hk6 := one_set w5 gc 2 (.int .i64 5)
  have hB6 : Below w4.heap.size w4 (w5.setCell ⟨gc, 2, none⟩ (.int .i64 5)) := Go.Bl.Below.keep hB5 hk6 hB5.size (fun x hx => by have hx : x = gc := hx; omega)
  have HGC := Lib.hid hg6
  have HB6 := Lib.hid hB6
  clear hg5 hB5 hg6 hk6 hB6 hgc
  go_upto_region 6 with (fail)
  generalize w5.setCell ⟨gc, 2, none⟩ (.int .i64 5) = w6 at HGC HB6 ⊢
  have hB36 := HB4.out.trans (HB6.out.mono HB4.out.size)
  have hga6 := (hB36.block (ge + 1) (Array.getElem?_eq_some_iff.1 HGA.out).1).trans HGA.out
  have hgb6 := (HB6.out.block gb (Array.getElem?_eq_some_iff.1 HGB.out).1).trans HGB.out
  have hSe6 := HSE.out.fresh hB36
  have hlog6 := EntsOk.grow HLOG3.out hB36
  have hB7 := (Below.refl w6.heap.size w6).alloc (Nat.le_refl _) (.cells ([shA ge, shB 6].flatMap opc).toArray 36)
  have hg7 := heap_alloc_new w6 (.cells ([shA ge, shB 6].flatMap opc).toArray 36)
  have HGA6 := Lib.hid hga6
  have HA6 := Lib.hid (load_box hga6)
  have HB6' := Lib.hid (load_box hgb6)
  have hbw := HB3.out.trans (hB36.mono HB3.out.size)
  have HBW := Lib.hid hbw
  have hck := fun (W : World) (hW : Below w6.heap.size w6 W) (s : Int) (hs : 0 < s) (v : Value) (hv : Sl W (fun b => b < W.heap.size) 17 opc v [shA ge, shB s]) => check_ord W (HT.out.fresh (hbw.trans (hW.mono hbw.size))) (.slice (some ⟨gl, 0, none⟩) 1 1) [firstE 1 1 (-1) 1 vl] (EntsOk.grow hlog6 hW) (sh_log vl) (by show (1 : Nat) ≤ 100; omega) v [shA ge, shB s] hv (fun o ho => by
    rcases List.mem_cons.1 ho with rfl | ho
    · exact ⟨.inr rfl, (hSe6.fresh hW).bound.mono (fun b _ hb => hb.2), ⟨_, _, _, rfl⟩, by show (1 : Nat) ≤ maxLen; unfold maxLen; omega, by show -9223372036854775808 ≤ (0 : Int) ∧ (0 : Int) ≤ 9223372036854775807; omega⟩
    · rw [List.mem_singleton.1 ho]
      exact ⟨.inr rfl, Sl.nil_ _ _ _ _, ⟨_, _, _, rfl⟩, by show (1 : Nat) ≤ maxLen; unfold maxLen; omega, by show -9223372036854775808 ≤ (0 : Int) ∧ (0 : Int) ≤ 9223372036854775807; omega⟩) (by show (2 : Nat) ≤ 20; omega)
  have HCK := Lib.hid hck
  have hs7 := (sl_row (n := 2) (k := 17) (enc := opc) (fun _ => rfl) (l := [shA ge, shB 6]) rfl (by unfold maxLen; omega) hg7).bound
  have HS7 := Lib.hid (hs7.mono (F' := fun b => b < (w6.alloc (.cells ([shA ge, shB 6].flatMap opc).toArray 36)).heap.size) (fun b _ hb => hb.2))
  have HB7 := Lib.hid hB7
  clear y2 f2 hB36 hga6 hgb6 hSe6 hlog6 hB7 hg7 hbw hck hs7
  go_wp2_with (first | (refine op_loadg (by rfl) (.tmp 2) rfl (ge + 1) 0 rfl (shA ge) HA6.out ?_) | (refine op_loadg (by rfl) (.tmp 3) rfl gb 0 rfl (shB 6) HB6'.out ?_) | (refine op_build2 (by rfl) 14 15 rfl (shA ge) (shB 6) rfl rfl ?_))
  refine (HCK.out _ HB7.out 6 (by decide) _ HS7.out).mono ?_
  rintro e w8 ⟨ord, hord, rfl, hB8⟩
  rw [sh_ord (by decide) hord, sh_two]
  have HB8 := Lib.hid (HB7.out.trans (hB8.mono HB7.out.size))
  have HA8 := Lib.hid (load_box (((HB7.out.trans (hB8.mono HB7.out.size)).block (ge + 1) (Array.getElem?_eq_some_iff.1 HGA6.out).1).trans HGA6.out))
  have HC8 := Lib.hid (load_box (((HB7.out.trans (hB8.mono HB7.out.size)).block gc (Array.getElem?_eq_some_iff.1 HGC.out).1).trans HGC.out))
  have hB9 := (Below.refl w8.heap.size w8).alloc (Nat.le_refl _) (.cells ([shA ge, shB 5].flatMap opc).toArray 36)
  have hg9 := heap_alloc_new w8 (.cells ([shA ge, shB 5].flatMap opc).toArray 36)
  have hs9 := (sl_row (n := 2) (k := 17) (enc := opc) (fun _ => rfl) (l := [shA ge, shB 5]) rfl (by unfold maxLen; omega) hg9).bound
  have HS9 := Lib.hid (hs9.mono (F' := fun b => b < (w8.alloc (.cells ([shA ge, shB 5].flatMap opc).toArray 36)).heap.size) (fun b _ hb => hb.2))
  have HB9 := Lib.hid (HB8.out.trans (hB9.mono HB8.out.size))
  clear hord hB8 hB9 hg9 hs9
  go_wp2_with (first | (refine op_loadg (by rfl) (.tmp 2) rfl (ge + 1) 0 rfl (shA ge) HA8.out ?_) | (refine op_loadg (by rfl) (.tmp 4) rfl gc 0 rfl (shB 5) HC8.out ?_) | (refine op_build2 (by rfl) 21 22 rfl (shA ge) (shB 5) rfl rfl ?_))
  refine (HCK.out _ HB9.out 5 (by decide) _ HS9.out).mono ?_
  rintro e w10 ⟨ord, hord, rfl, hB10⟩
  rw [sh_ord (by decide) hord, sh_none]
  have HB10 := Lib.hid (HBW.out.trans ((HB9.out.trans (hB10.mono HB9.out.size)).mono HBW.out.size))
  clear hord hB10
  go_wp2_with fail
  go_ret
  exact ⟨rfl, HB10.out⟩
end Go.Proofs.YthdcnknjjbdefaaGreatDoor.His

namespace Go.Proofs.YthdcnknjjbdefaaGreatDoor.His
open Go.RowKit Go.Bl
attribute [local go_sem ↓] Go.wp_at_zero Go.wp_at_succ

/-- Ops whose values are one cell each. -/
structure OpS where
  val : Hop
  one : (opc val).toArray.all (·.oneCell') = true
def opsc (a : OpS) : List Value := opc a.val
theorem opsc_one (x : OpS) (u : Value) (h : u ∈ opsc x) : u.oneCell' = true := by
  have := x.one
  rw [Array.all_eq_true_iff_forall_mem] at this
  exact this u (by simpa [opsc] using h)
theorem elOps : El Tryz.prog 28 36 17 ((Tryz.prog.info? 36).elim 0 (·.bytes)) opsc := ⟨Tryz.underlying28, ⟨_, infoOp, rfl⟩, by decide, op_bytes, fun _ => rfl, opsc_one⟩
theorem op_build1 {w : World} {ops : Array Oper} {rest : List Oper} {op : Oper} {a : Act} {Q : Exit → Act → World → Prop} (hw : Region.wanted op (yielded ops a.tmps) = true) (x : Nat) (ho : op.op = .buildSlice 28 1 #[(0, .tmp x)]) (p : Hop) (hx : a.eval (.tmp x) = .agg (opc p).toArray)
    (h : wpList Tryz.prog ops Q rest (a.put op.dst (.slice (some ⟨w.heap.size, 0, none⟩) 1 1)) (w.alloc (.cells (opc p).toArray 36))) : wpList Tryz.prog ops Q (op :: rest) a w := by
  unfold wpList
  rw [if_pos hw]
  refine .inl ?_
  obtain ⟨i0, hi, h1, h2, h3⟩ := info_parts infoOp
  refine wp_buildSlice 28 36 1 #[(0, .tmp x)] ho (opc p).toArray i0 (.agg (opc Hop.zero).toArray) Tryz.underlying28 hi h1 (by rw [h2]; decide) (by rw [h2]; decide) ?_ h
  rw [h2]
  simp only [List.map_toArray, List.map_cons, List.map_nil, hx]
  kernel_rfl
/-- The ops of a log that raw ones make, in a row of their own. -/
structure OpsK (w2 : World) (log : List Ent) (f : Rw → Rw) (raws : List Rw) (u : Value) (R : List OpS) (k : Nat) (wr : World) : Prop where
  own : Own wr w2.heap.size 36 17 opsc u R
  len : R.length = k
  is : ∀ j (h : j < R.length) (h2 : j < raws.length), OpIs log (f raws[j]) ((j : Int) + 1) R[j].val
  ok : ∀ o ∈ R, OpOk wr (fun b => u.ownBlock ≠ some b ∧ b < wr.heap.size) o.val
  bel : Below w2.heap.size w2 wr
section
variable {w2 wr w5 w6 w7 : World} {log : List Ent} {f : Rw → Rw} {raws : List Rw} {u u' : Value} {R : List OpS} {k : Nat}
theorem OpsK.start (w2 : World) (log : List Ent) (f : Rw → Rw) (raws : List Rw) : OpsK w2 log f raws (.slice none 0 0) [] 0 w2 := ⟨Own.nil_ _ _ _ _ _, rfl, fun j h => by simp at h, (fun o h => by cases h), Below.refl _ _⟩
theorem OpsK.fresh (h : OpsK w2 log f raws u R k wr) (hB : Below wr.heap.size wr w5) : OpsK w2 log f raws u R k w5 :=
  ⟨h.own.fresh hB, h.len, h.is, fun o ho => ⟨(h.ok o ho).kind, ((h.ok o ho).ev.fresh hB).mono (fun _ _ hb => ⟨hb.1, Nat.lt_of_lt_of_le hb.2 hB.size⟩), (h.ok o ho).bev, (h.ok o ho).st, (h.ok o ho).pos⟩, h.bel.trans (hB.mono h.bel.size)⟩
/-- One more: o, made in calls from wr to w5; appended from w6 to w7. -/
theorem OpsK.push (h : OpsK w2 log f raws u R k wr) (hB : Below wr.heap.size wr w5) {o : OpS} (ho : OpOk w5 (fun b => wr.heap.size ≤ b ∧ b < w5.heap.size) o.val) (hi : ∀ h2 : k < raws.length, OpIs log (f raws[k]) ((k : Int) + 1) o.val) (hB6 : Below w5.heap.size w5 w6) (hO : Own w7 w2.heap.size 36 17 opsc u' (R ++ [o]))
    (hg : w6.grownBy w7 u.ownBlock) (hat : AtOf w6 u u') : OpsK w2 log f raws u' (R ++ [o]) (k + 1) w7 := by
  have hk := Keeps.of_grown hg
  have h6 := (h.fresh hB).fresh hB6
  have hlt := h.own.lt
  have hnew : ∀ b, b < w6.heap.size → u.ownBlock ≠ some b → u'.ownBlock ≠ some b := fun b hb hn e => by
    rcases hat with e2 | e2
    · exact hn (e2 ▸ e)
    · rw [e2] at e; cases e; omega
  refine ⟨hO, by rw [List.length_append, h.len, List.length_singleton], fun j hj h2 => ?_, fun x hx => ?_, Go.Bl.Below.keep h6.bel hk h6.bel.size (fun b hb => (hlt b hb).1)⟩
  · by_cases hjr : j < R.length
    · rw [List.getElem_append_left hjr]
      exact h.is j hjr h2
    · have hjk : j = k := by rw [List.length_append, List.length_singleton] at hj; have := h.len; omega
      subst hjk
      rw [List.getElem_append_right (by have := h.len; omega)]
      have := hi h2
      simpa using this
  · rcases List.mem_append.1 hx with hx | hx
    · have := h6.ok x hx
      exact ⟨this.kind, (this.ev.keep hk (fun _ _ hb e => hb.1 e)).mono (fun b hbl hb => ⟨hnew b hb.2 hb.1, hbl⟩), this.bev, this.st, this.pos⟩
    · rw [List.mem_singleton.1 hx]
      have hs := ho.ev.fresh hB6
      have hne : ∀ b, (wr.heap.size ≤ b ∧ b < w5.heap.size) → u.ownBlock ≠ some b := fun b hb e => by have := (hlt b e).2; omega
      exact ⟨ho.kind, (hs.keep hk (fun b _ hb e => hne b hb e)).mono (fun b hbl hb => ⟨hnew b (by have := hB6.size; omega) (hne b hb), hbl⟩), ho.bev, ho.st, ho.pos⟩
theorem OpsK.sl (h : OpsK w2 log f raws u R k wr) : Sl wr (fun b => b < wr.heap.size) 17 opc u (R.map OpS.val) := by
  obtain ⟨A, c, h1, h2, h3, h4⟩ := (h.own.sl elOps.len).bound
  refine ⟨A, c, by rw [List.length_map]; exact h1, by rw [List.length_map]; exact h2, h3, fun h0 => ?_⟩
  rw [List.length_map] at h0
  obtain ⟨b, o, e1, e2, e3, e4⟩ := h4 h0
  refine ⟨b, o, e1, e2.2, e3, fun i hi j u hu => ?_⟩
  have hi' : i < R.length := by simpa using hi
  rw [List.getElem_map] at hu
  exact e4 i hi' j u hu
theorem OpsK.oks (h : OpsK w2 log f raws u R k wr) : ∀ o ∈ R.map OpS.val, OpOk wr (fun b => b < wr.heap.size) o := fun o ho => by
  obtain ⟨x, hx, rfl⟩ := List.mem_map.1 ho
  have := h.ok x hx
  exact ⟨this.kind, this.ev.mono (fun _ hb _ => hb), this.bev, this.st, this.pos⟩
theorem OpsK.spans (h : OpsK w2 log f raws u R k wr) (hk : k ≤ raws.length) : Spans (R.map OpS.val) := fun o ho hc => by
  obtain ⟨x, hx, rfl⟩ := List.mem_map.1 ho
  obtain ⟨j, hj, rfl⟩ := List.mem_iff_getElem.1 hx
  exact (h.is j hj (by have := h.len; omega)).span hc
end
end Go.Proofs.YthdcnknjjbdefaaGreatDoor.His
