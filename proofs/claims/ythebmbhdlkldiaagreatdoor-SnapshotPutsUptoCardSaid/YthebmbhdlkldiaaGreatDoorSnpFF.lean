/- SnapshotPuts: the given statement, where what it reads is of bulk at most 1048576. -/
import Derived.Test.YthebmbhdlkldiaaGreatDoorRows
import Derived.Test.YthebmbhdlkldiaaGreatDoorSnpF
import Derived.Test.YthebmbhdlkldiaaGreatDoorBlX
import Derived.Test.YthebmbhdlkldiaaGreatDoorTie
import Derived.Test.YthebmbhdlkldiaaGreatDoorCards
import Derived.SevenTiedAt
namespace Go.Proofs.YthebmbhdlkldiaaGreatDoor
open Go.ChangeShapes Go.WideShapes Go.ChangeAt Go.RowKit Go.Bl

theorem mem_sum {α : Type} (m : α → Nat) : ∀ {l : List α} {a : α}, a ∈ l → m a ≤ (l.map m).sum
  | b :: l, a, h => by
    simp only [List.map_cons, List.sum_cons]
    rcases List.mem_cons.1 h with e | e
    · subst e; omega
    · have := mem_sum m e; omega
theorem len_sum {α : Type} (m : α → Nat) (c : Nat) (h : ∀ a, c ≤ m a) : ∀ l : List α, l.length * c ≤ (l.map m).sum
  | [] => by simp
  | a :: l => by
    have h1 := len_sum m c h l
    have h2 := h a
    simp only [List.map_cons, List.sum_cons, List.length_cons, Nat.add_mul]
    omega
theorem evN_bulk (l : List Ent) : evN l * 3 + l.length * 8 ≤ (l.map mEnt).sum := by
  induction l with
  | nil => simp [evN]
  | cons a l ih =>
    have h := len_sum mEv 3 (fun e => by unfold mEv; omega) a.evs
    unfold evN at ih ⊢
    simp only [List.map_cons, List.sum_cons, List.length_cons, Nat.add_mul]
    have : mEnt a = a.stream.size + (a.evs.map mEv).sum + 8 := rfl
    omega
theorem snapshotPuts_reads (os : Os) {H : Type} (enc : TypeId × Value → H) : ∃ places, DataW.whole enc Tryz.prog ((laidWorld os).forCall (fun _ _ => 0) ⟨#[], #[.slice none 0 0], []⟩).memory Tryz.f3.params.toList Rows.snapshotPutsSpec.vars false #[Value.slice none 0 0].toList 8 = some ([.nil], [], places) :=
  ⟨[], by kernel_rfl⟩
set_option maxRecDepth 100000 in
theorem snapshotPutsUpto_lifted (os : Os) (started : os.Started) (H : Type) (enc : TypeId × Value → H) (F : Stop.Interp) :
    ReturnsInHanded {} Tryz.checked os 3 .any ((Rows.OpenSpec.upto Rows.snapshotPutsSpec).preRow enc Tryz.prog Tryz.f3 Rows.snapshotPutsUptoRow.domain false Rows.snapshotPutsUptoRow.laid) (((Rows.OpenSpec.upto Rows.snapshotPutsSpec).at F).post enc Tryz.prog Tryz.f3 false true false false) := by
  obtain ⟨places, hx⟩ := snapshotPuts_reads os enc
  refine law_upto (C := Tryz.checked) own started (by kernel_rfl) Tryz.func3
    (witness_row_atRef (enc := enc) (C := Tryz.checked) false (laidWorld os) #[.slice none 0 0] rfl (by kernel_rfl) (by kernel_rfl) (by kernel_rfl)
      (OpenSpec.preRow_of_cond 8 hx (by kernel_rfl) (fun k hk => by cases hk; kernel_rfl) (by kernel_rfl) (laid_met os _)))
    laidOut (by kernel_rfl) (by kernel_rfl) Tryz.underlying4 rfl (fun ds h => by match ds, h with | [_], _ => rfl) ?_
  intro W base args ds p hval0 hA0 hz0 hL hb
  have hT := tabs_of_laid hL
  have hval : ∀ (j : Nat) t v, Tryz.f3.params[j]? = some t → args[j]? = some v → Value.okWide Tryz.prog W .any base t v := hval0
  have hA : DataW.TrodAll enc Tryz.prog W 0 (fun _ => true) true Tryz.f3.params.toList args.toList ds p := hA0
  have hz : SizedEach Tryz.prog Tryz.f3.params.toList ds := hz0
  rw [Tryz.params3] at hA hval hz
  obtain ⟨v0, d0, rfl, rfl, h0⟩ := trodAll_one hA
  obtain ⟨⟨v0, l⟩, rfl, q0, m0⟩ := arg_oneM (opEntriesM W) h0 (fun n hn => hz n (by simp only [DataW.weightsEach, List.mem_append]; exact .inl hn)) (hval 0 22 v0 rfl rfl) (by simp [Tryz.underlying22]) (by simp [Tryz.underlying22])
  simp only [Rows.uptoBulkAll, Nat.add_zero] at hb
  have hm : (l.map mEnt).sum ≤ 1048575 := by
    have : (l.map mEnt).sum + 1 ≤ Rows.uptoBulk d0 := m0
    omega
  have hev := evN_bulk l
  refine puts_any W hT v0 l ⟨q0.1, q0.2.1⟩ (fun a ha => ?_) (by omega) (by omega)
  have h1 := mem_sum mEnt ha
  have h2 : mEnt a = a.stream.size + (a.evs.map mEv).sum + 8 := rfl
  have h3 := len_sum mEv 3 (fun e => by unfold mEv; omega) a.evs
  refine ⟨fun e he => ?_, by omega, by omega⟩
  have h4 := mem_sum mEv he
  have h5 : mEv e = e.kind.size + e.data.size + 3 := rfl
  exact ⟨by omega, by omega⟩

theorem snapshotPutsUpto_row : Rows.SnapshotPutsUptoSaid :=
  OpenClaim.holds_of_cond 3 Tryz.f3 rfl rfl rfl rfl rfl rfl rfl ⟨rfl, rfl, rfl, rfl, rfl⟩ rfl rfl rfl rfl rfl (by kernel_rfl) Tryz.func3 (by kernel_rfl)
    (of_decide_eq_true (by kernel_rfl)) (by unfold Func.isWrapper; first | (rw [if_pos (by decide +kernel)]; kernel_rfl) | (rw [if_neg (by decide +kernel)]; exact ⟨rfl, rfl⟩))
    (fun os started H enc _ F0 => by rw [OpenClaim.pre_eq_preRow]; exact snapshotPutsUpto_lifted os started H enc F0)

theorem snapshotPutsUpto_holds : Rows.SnapshotPutsUptoCardSaid :=
  Claim7.holds_tied_plain_at .later [] [.data, .pinned] true Rows.snapshotPutsUptoCard.stood.harness Rows.snapshotPutsUptoCard.stood.looks
    snapshotPutsUpto_row (fun _ h => by cases h) (by kernel_rfl) (fun _ h => by cases h) snapshotPutsUpto_row_tie rfl ⟨rfl, rfl⟩ (by kernel_rfl) rfl
    (fun f fn hf hfn => by
      obtain rfl : f = 3 := (Option.some.inj ((show Tryz.prog.funcNamed "bucketline/bucketlinelaw16.SnapshotPuts" = some 3 by kernel_rfl).symm.trans hf)).symm
      obtain rfl : fn = Tryz.f3 := (Option.some.inj (Tryz.func3.symm.trans hfn)).symm
      refine ⟨by kernel_rfl, fun j t ht => ?_⟩
      rw [Tryz.params3] at ht
      have hall : (#[22] : Array TypeId).all (fun t => Tryz.prog.wantsStandIn t == false) = true := by kernel_rfl
      obtain ⟨hj, e⟩ := Array.getElem?_eq_some_iff.1 ht
      have := (Array.all_eq_true.1 hall) j hj
      rw [e] at this
      have h9 : Tryz.prog.wantsStandIn t = false := by simpa using this
      exact h9)
    (by kernel_rfl)
end Go.Proofs.YthebmbhdlkldiaaGreatDoor
