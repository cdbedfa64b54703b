/- ManifestKeeps: the given statement. -/
import Derived.Test.YthdehdlbocgfaaaDoorRows
import Derived.Test.YthdehdlbocgfaaaDoorManL
import Derived.Test.YthdehdlbocgfaaaDoorManS
import Derived.Test.YthdehdlbocgfaaaDoorTie
import Derived.Test.YthdehdlbocgfaaaDoorCards
import Derived.SevenTiedAt
namespace Go.Proofs.YthdehdlbocgfaaaDoor
open Go.ChangeShapes Go.WideShapes Go.ChangeAt Go.RowKit Go.Bl

theorem manifestKeeps_witness (os : Os) {H : Type} (enc : TypeId × Value → H) : (OpenSpec.ofChange Rows.manifestKeepsSpec).preRow enc Tryd.prog Tryd.f4 [] false [("unicode/utf8.acceptRanges", Rows.laid_unicode_utf8_acceptRanges), ("unicode/utf8.first", Rows.laid_unicode_utf8_first)] ((laidWorld os).forCall (fun _ _ => 0) ⟨#[], #[.int .i64 0, .slice none 0 0, .slice none 0 0], []⟩).memory #[.int .i64 0, .slice none 0 0, .slice none 0 0] :=
  OpenSpec.preRow_of_B rfl 8 (by kernel_rfl) (by kernel_rfl) (laid_met os _)

set_option maxRecDepth 100000 in
theorem manifestKeeps_lifted (os : Os) (started : os.Started) (H : Type) (enc : TypeId × Value → H) (F : Stop.Interp) :
    ReturnsInHanded {} Tryd.checked os 4 .any ((OpenSpec.ofChange Rows.manifestKeepsSpec).preRow enc Tryd.prog Tryd.f4 Rows.manifestKeepsRow.domain false Rows.manifestKeepsRow.laid) (((OpenSpec.ofChange Rows.manifestKeepsSpec).at F).post enc Tryd.prog Tryd.f4 false true false false) := by
  refine law_row (C := Tryd.checked) own started (by kernel_rfl) Tryd.func4
    (witness_row_atRef (enc := enc) (C := Tryd.checked) false (laidWorld os) #[.int .i64 0, .slice none 0 0, .slice none 0 0] rfl (by kernel_rfl) (by kernel_rfl) (by kernel_rfl) (manifestKeeps_witness os enc))
    laidOut (by kernel_rfl) (by kernel_rfl) Tryd.underlying4 rfl (fun ds h => by match ds, h with | [_, _, _], _ => rfl) ?_
  intro W base args ds p hval0 hA0 hz0 hL
  have hT := tabs_of_laid hL
  have hval : ∀ (j : Nat) t v, Tryd.f4.params[j]? = some t → args[j]? = some v → Value.okWide Tryd.prog W .any base t v := hval0
  have hA : DataW.TrodAll enc Tryd.prog W 0 (fun _ => true) true Tryd.f4.params.toList args.toList ds p := hA0
  have hz : SizedEach Tryd.prog Tryd.f4.params.toList ds := hz0
  rw [Tryd.params4] at hA hval hz
  obtain ⟨v0, v1, v2, d0, d1, d2, p0, p1, p2, rfl, rfl, rfl, h0, h1, h2⟩ := trodAll_three hA
  obtain ⟨room, rfl, q0⟩ := arg_one (opInt W) h0 (fun n hn => hz n (by simp only [DataW.weightsEach, List.mem_append]; exact .inl hn)) (hval 0 3 v0 rfl rfl) (by simp [Tryd.underlying3]) (by simp [Tryd.underlying3])
  obtain ⟨⟨w1, l⟩, rfl, q1⟩ := arg_one (opIntss W) h1 (fun n hn => hz n (by simp only [DataW.weightsEach, List.mem_append]; exact .inr (.inl hn))) (hval 1 36 v1 rfl rfl) (by simp [Tryd.underlying36]) (by simp [Tryd.underlying36])
  obtain ⟨⟨w2, keep⟩, rfl, q2⟩ := arg_one (opInts W) h2 (fun n hn => hz n (by simp only [DataW.weightsEach, List.mem_append]; exact .inr (.inr (.inl hn)))) (hval 2 22 v2 rfl rfl) (by simp [Tryd.underlying22]) (by simp [Tryd.underlying22])
  exact keeps_law W hT room q0 v1 v2 l keep q1.1 (fun a ha => ⟨(q1.2.1 a ha).1, (q1.2.1 a ha).2.1⟩) q2.1

theorem manifestKeeps_row : Rows.ManifestKeepsSaid :=
  OpenClaim.holds_of_cond 4 Tryd.f4 rfl rfl rfl rfl rfl rfl rfl ⟨rfl, rfl, rfl, rfl, rfl⟩ rfl rfl rfl rfl rfl (by kernel_rfl) Tryd.func4 (by kernel_rfl)
    (of_decide_eq_true (by kernel_rfl)) (by unfold Func.isWrapper; first | (rw [if_pos (by decide +kernel)]; kernel_rfl) | (rw [if_neg (by decide +kernel)]; exact ⟨rfl, rfl⟩))
    (fun os started H enc _ F0 => by rw [OpenClaim.pre_eq_preRow]; exact manifestKeeps_lifted os started H enc F0)

theorem manifestKeeps_holds : Rows.ManifestKeepsCardSaid :=
  Claim7.holds_tied_plain_at .later [] [.data, .pinned] true Rows.manifestKeepsCard.stood.harness Rows.manifestKeepsCard.stood.looks
    manifestKeeps_row (fun _ h => by cases h) (by kernel_rfl) (fun _ h => by cases h) manifestKeeps_row_tie rfl ⟨rfl, rfl⟩ (by kernel_rfl) rfl
    (fun f fn hf hfn => by
      obtain rfl : f = 4 := (Option.some.inj ((show Tryd.prog.funcNamed "bucketline/bucketlinelaw10.ManifestKeeps" = some 4 by kernel_rfl).symm.trans hf)).symm
      obtain rfl : fn = Tryd.f4 := (Option.some.inj (Tryd.func4.symm.trans hfn)).symm
      refine ⟨by kernel_rfl, fun j t ht => ?_⟩
      rw [Tryd.params4] at ht
      have hall : (#[3, 36, 22] : Array TypeId).all (fun t => Tryd.prog.wantsStandIn t == false) = true := by kernel_rfl
      obtain ⟨hj, e⟩ := Array.getElem?_eq_some_iff.1 ht
      have := (Array.all_eq_true.1 hall) j hj
      rw [e] at this
      have h9 : Tryd.prog.wantsStandIn t = false := by simpa using this
      exact h9)
    (by kernel_rfl)
end Go.Proofs.YthdehdlbocgfaaaDoor
