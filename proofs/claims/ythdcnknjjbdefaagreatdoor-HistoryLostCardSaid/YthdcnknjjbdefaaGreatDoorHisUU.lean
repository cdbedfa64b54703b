/- HistoryLost: the given statement. -/
import Derived.Test.YthdcnknjjbdefaaGreatDoorRecO
import Derived.Test.YthdcnknjjbdefaaGreatDoorHisU
import Derived.Test.YthdcnknjjbdefaaGreatDoorRows
import Derived.Test.YthdcnknjjbdefaaGreatDoorTie
import Derived.Test.YthdcnknjjbdefaaGreatDoorCards
import Derived.SevenTiedAt
/- The history: how a raw op reads. No condition. -/
namespace Go.Proofs.YthdcnknjjbdefaaGreatDoor.His
open Go.ChangeShapes Go.WideShapes Go.ChangeAt Go.RowKit Go.Bl

theorem opRaw (W : World) : Opens Tryz.prog W 39 rwc RwOk :=
  (Opens.struct Tryz.underlying39 (by kernel_rfl) (OpensFs.one (opInt W) rfl (by kernel_rfl) (OpensFs.one (opInt W) rfl (by kernel_rfl) (OpensFs.one (opInt W) rfl (by kernel_rfl) (OpensFs.one (opInt W) rfl (by kernel_rfl) (OpensFs.one (Opens.bool Tryz.underlying4) rfl (by kernel_rfl) (OpensFs.one (opStr W) rfl (by kernel_rfl)
    (OpensFs.one (opInt W) rfl (by kernel_rfl) OpensFs.nil)))))))).as (fun p => ⟨p.1, p.2.1, p.2.2.1, p.2.2.2.1, p.2.2.2.2.1, p.2.2.2.2.2.1, p.2.2.2.2.2.2.1⟩)
    (fun _ h => ⟨rfl, h.1, h.2.1, h.2.2.1, h.2.2.2.1⟩)
theorem opRaws (W : World) : Opens Tryz.prog W 23 (fun p : Value × List Rw => [p.1]) (sliceC Tryz.prog W 39 7 rwc RwOk) := Opens.slice Tryz.underlying23 (by kernel_rfl) (by decide) (opRaw W)
end Go.Proofs.YthdcnknjjbdefaaGreatDoor.His

namespace Go.Proofs.YthdcnknjjbdefaaGreatDoor
open Go.ChangeShapes Go.WideShapes Go.ChangeAt Go.RowKit Go.Bl

theorem historyLost_witness (os : Os) {H : Type} (enc : TypeId × Value → H) : (OpenSpec.ofChange Rows.historyLostSpec).preRow enc Tryz.prog Tryz.f6 [] false [("unicode/utf8.acceptRanges", Rows.laid_unicode_utf8_acceptRanges), ("unicode/utf8.first", Rows.laid_unicode_utf8_first)] ((laidWorld os).forCall (fun _ _ => 0) ⟨#[], #[.slice none 0 0, .slice none 0 0, .int .i64 0], []⟩).memory #[.slice none 0 0, .slice none 0 0, .int .i64 0] :=
  OpenSpec.preRow_of_B rfl 8 (by kernel_rfl) (by kernel_rfl) (laid_met os _)

set_option maxRecDepth 100000 in
theorem historyLost_lifted (os : Os) (started : os.Started) (H : Type) (enc : TypeId × Value → H) (F : Stop.Interp) :
    ReturnsInHanded {} Tryz.checked os 6 .any ((OpenSpec.ofChange Rows.historyLostSpec).preRow enc Tryz.prog Tryz.f6 Rows.historyLostRow.domain false Rows.historyLostRow.laid) (((OpenSpec.ofChange Rows.historyLostSpec).at F).post enc Tryz.prog Tryz.f6 false true false false) := by
  refine law_row (C := Tryz.checked) own started (by kernel_rfl) Tryz.func6
    (witness_row_atRef (enc := enc) (C := Tryz.checked) false (laidWorld os) #[.slice none 0 0, .slice none 0 0, .int .i64 0] rfl (by kernel_rfl) (by kernel_rfl) (by kernel_rfl) (historyLost_witness os enc))
    laidOut (by kernel_rfl) (by kernel_rfl) Tryz.underlying4 rfl (fun ds h => by match ds, h with | [_, _, _], _ => rfl) ?_
  intro W base args ds p hval0 hA0 hz0 hL
  have hT := tabs_of_laid hL
  have hval : ∀ (j : Nat) t v, Tryz.f6.params[j]? = some t → args[j]? = some v → Value.okWide Tryz.prog W .any base t v := hval0
  have hA : DataW.TrodAll enc Tryz.prog W 0 (fun _ => true) true Tryz.f6.params.toList args.toList ds p := hA0
  have hz : SizedEach Tryz.prog Tryz.f6.params.toList ds := hz0
  rw [Tryz.params6] at hA hval hz
  obtain ⟨v0, v1, v2, d0, d1, d2, p0, p1, p2, rfl, rfl, rfl, h0, h1, h2⟩ := trodAll_three hA
  obtain ⟨⟨v0, l⟩, rfl, q0⟩ := arg_one (opEntries W) h0 (fun n hn => hz n (by simp only [DataW.weightsEach, List.mem_append]; exact .inl hn)) (hval 0 22 v0 rfl rfl) (by simp [Tryz.underlying22]) (by simp [Tryz.underlying22])
  obtain ⟨⟨v1, raws⟩, rfl, q1⟩ := arg_one (His.opRaws W) h1 (fun n hn => hz n (by simp only [DataW.weightsEach, List.mem_append]; exact .inr (.inl hn))) (hval 1 23 v1 rfl rfl) (by simp [Tryz.underlying23]) (by simp [Tryz.underlying23])
  obtain ⟨at_, rfl, q2⟩ := arg_one (opInt W) h2 (fun n hn => hz n (by simp only [DataW.weightsEach, List.mem_append]; exact .inr (.inr (.inl hn)))) (hval 2 3 v2 rfl rfl) (by simp [Tryz.underlying3]) (by simp [Tryz.underlying3])
  exact His.lost_law W hT v0 l ⟨q0.1, q0.2.1⟩ v1 raws ⟨q1.1, q1.2.1⟩ at_ q2

theorem historyLost_row : Rows.HistoryLostSaid :=
  OpenClaim.holds_of_cond 6 Tryz.f6 rfl rfl rfl rfl rfl rfl rfl ⟨rfl, rfl, rfl, rfl, rfl⟩ rfl rfl rfl rfl rfl (by kernel_rfl) Tryz.func6 (by kernel_rfl)
    (of_decide_eq_true (by kernel_rfl)) (by unfold Func.isWrapper; first | (rw [if_pos (by decide +kernel)]; kernel_rfl) | (rw [if_neg (by decide +kernel)]; exact ⟨rfl, rfl⟩))
    (fun os started H enc _ F0 => by rw [OpenClaim.pre_eq_preRow]; exact historyLost_lifted os started H enc F0)

theorem historyLost_holds : Rows.HistoryLostCardSaid :=
  Claim7.holds_tied_plain_at .later [] [.data, .pinned] true Rows.historyLostCard.stood.harness Rows.historyLostCard.stood.looks
    historyLost_row (fun _ h => by cases h) (by kernel_rfl) (fun _ h => by cases h) historyLost_row_tie rfl ⟨rfl, rfl⟩ (by kernel_rfl) rfl
    (fun f fn hf hfn => by
      obtain rfl : f = 6 := (Option.some.inj ((show Tryz.prog.funcNamed "bucketline/bucketlinelaw23.HistoryLost" = some 6 by kernel_rfl).symm.trans hf)).symm
      obtain rfl : fn = Tryz.f6 := (Option.some.inj (Tryz.func6.symm.trans hfn)).symm
      refine ⟨by kernel_rfl, fun j t ht => ?_⟩
      rw [Tryz.params6] at ht
      have hall : (#[22, 23, 3] : Array TypeId).all (fun t => Tryz.prog.wantsStandIn t == false) = true := by kernel_rfl
      obtain ⟨hj, e⟩ := Array.getElem?_eq_some_iff.1 ht
      have := (Array.all_eq_true.1 hall) j hj
      rw [e] at this
      have h9 : Tryz.prog.wantsStandIn t = false := by simpa using this
      exact h9)
    (by kernel_rfl)
end Go.Proofs.YthdcnknjjbdefaaGreatDoor
