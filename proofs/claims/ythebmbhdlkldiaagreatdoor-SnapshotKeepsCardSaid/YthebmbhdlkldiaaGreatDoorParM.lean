/- Parts of a state in memory. No condition. -/
import Derived.Test.YthebmbhdlkldiaaGreatDoorParP
import Derived.Test.YthebmbhdlkldiaaGreatDoorDedR
import Derived.Test.YthebmbhdlkldiaaGreatDoorDedS
import Derived.Test.YthebmbhdlkldiaaGreatDoorBlL
namespace Go.Proofs.YthebmbhdlkldiaaGreatDoor
open Go.RowKit Go.Bl

/-- A stream's part with the slices that it bears. -/
structure SmS where
  sp : Sp
  ev : Value
  pv : Value
  o1 : ev.oneCell' = true
  o2 : pv.oneCell' = true
def smc (x : SmS) : List Value := [.string x.sp.name, x.ev, x.pv]
theorem smc_one (x : SmS) (u : Value) (h : u ∈ smc x) : u.oneCell' = true := by
  simp only [smc, List.mem_cons, List.not_mem_nil, or_false] at h
  rcases h with rfl | rfl | rfl
  · rfl
  · exact x.o1
  · exact x.o2
def SmAt (w : World) (G : Nat → Prop) (x : SmS) : Prop := Sl w G 2 evc x.ev x.sp.evs ∧ Sl w G 1 intc x.pv x.sp.pos
theorem SmAt.mono {w : World} {G G' : Nat → Prop} {x : SmS} (h : SmAt w G x) (hG : ∀ k, k < w.heap.size → G k → G' k) : SmAt w G' x := ⟨h.1.mono hG, h.2.mono hG⟩
theorem SmAt.keep {w w' : World} {G H : Nat → Prop} {x : SmS} (h : SmAt w G x) (hk : Keeps H w w') (hd : ∀ k, k < w.heap.size → G k → ¬ H k) : SmAt w' G x := ⟨h.1.keep hk hd, h.2.keep hk hd⟩
theorem SmAt.fresh {w w' : World} {G : Nat → Prop} {x : SmS} (h : SmAt w G x) (hB : Below w.heap.size w w') : SmAt w' G x := ⟨h.1.fresh hB, h.2.fresh hB⟩
theorem SmAt.bound {w : World} {G : Nat → Prop} {x : SmS} (h : SmAt w G x) : SmAt w (fun b => G b ∧ b < w.heap.size) x := ⟨h.1.bound, h.2.bound⟩
/-- Streams' parts. -/
def SmsAt (w : World) (G : Nat → Prop) (v : Value) (ss : List Sp) : Prop := ∃ S : List SmS, Sl w G 3 smc v S ∧ (∀ x ∈ S, SmAt w G x) ∧ S.map SmS.sp = ss
theorem SmsAt.fresh {w w' : World} {G : Nat → Prop} {v : Value} {ss : List Sp} (h : SmsAt w G v ss) (hB : Below w.heap.size w w') : SmsAt w' G v ss := by
  obtain ⟨S, h1, h2, h3⟩ := h
  exact ⟨S, h1.fresh hB, fun x hx => (h2 x hx).fresh hB, h3⟩
theorem SmsAt.mono {w : World} {G G' : Nat → Prop} {v : Value} {ss : List Sp} (h : SmsAt w G v ss) (hG : ∀ k, k < w.heap.size → G k → G' k) : SmsAt w G' v ss := by
  obtain ⟨S, h1, h2, h3⟩ := h
  exact ⟨S, h1.mono hG, fun x hx => (h2 x hx).mono hG, h3⟩
theorem SmsAt.keep {w w' : World} {G H : Nat → Prop} {v : Value} {ss : List Sp} (h : SmsAt w G v ss) (hk : Keeps H w w') (hd : ∀ k, k < w.heap.size → G k → ¬ H k) : SmsAt w' G v ss := by
  obtain ⟨S, h1, h2, h3⟩ := h
  exact ⟨S, h1.keep hk hd, fun x hx => (h2 x hx).keep hk hd, h3⟩
theorem SmsAt.shape {w : World} {G : Nat → Prop} {v : Value} {ss : List Sp} (h : SmsAt w G v ss) : ∃ A c, v = .slice A ss.length c ∧ ss.length ≤ c ∧ c ≤ maxLen := by
  obtain ⟨S, h1, h2, h3⟩ := h
  have := h1.shape
  rw [← h3, List.length_map]
  exact this
structure PtAt (w : World) (G : Nat → Prop) (sv rv : Value) (p : Pt) : Prop where
  ss : SmsAt w G sv p.ss
  rs : Sl w G 6 Ded.onec rv p.rs
theorem PtAt.fresh {w w' : World} {G : Nat → Prop} {sv rv : Value} {p : Pt} (h : PtAt w G sv rv p) (hB : Below w.heap.size w w') : PtAt w' G sv rv p := ⟨h.ss.fresh hB, h.rs.fresh hB⟩
theorem PtAt.mono {w : World} {G G' : Nat → Prop} {sv rv : Value} {p : Pt} (h : PtAt w G sv rv p) (hG : ∀ k, k < w.heap.size → G k → G' k) : PtAt w G' sv rv p := ⟨h.ss.mono hG, h.rs.mono hG⟩
theorem PtAt.keep {w w' : World} {G H : Nat → Prop} {sv rv : Value} {p : Pt} (h : PtAt w G sv rv p) (hk : Keeps H w w') (hd : ∀ k, k < w.heap.size → G k → ¬ H k) : PtAt w' G sv rv p := ⟨h.ss.keep hk hd, h.rs.keep hk hd⟩

/-- A row of streams' parts that grows: what it bears lies apart from it. -/
def SmRow (w : World) (B : Nat) (e : TypeId) (v : Value) (S : List SmS) : Prop :=
  Own w B e 3 smc v S ∧ ∀ x ∈ S, SmAt w (fun b => B ≤ b ∧ v.ownBlock ≠ some b) x
theorem SmRow.nil (w : World) (B : Nat) (e : TypeId) : SmRow w B e (.slice none 0 0) [] := ⟨Own.nil_ _ _ _ _ _, fun x hx => absurd hx (by simp)⟩
theorem SmRow.fresh {w w' : World} {B : Nat} {e : TypeId} {v : Value} {S : List SmS} (h : SmRow w B e v S) (hB : Below w.heap.size w w') : SmRow w' B e v S := ⟨h.1.fresh hB, fun x hx => (h.2 x hx).fresh hB⟩
theorem SmRow.keep {w w' : World} {B : Nat} {e : TypeId} {H : Nat → Prop} {v : Value} {S : List SmS} (h : SmRow w B e v S) (hk : Keeps H w w') (hd : ∀ k, k < w.heap.size → B ≤ k → ¬ H k) : SmRow w' B e v S :=
  ⟨h.1.keep hk (fun b hb => hd b (h.1.lt b hb).2 (h.1.lt b hb).1), fun x hx => (h.2 x hx).keep hk (fun k hlt hG => hd k hlt hG.1)⟩
theorem SmRow.snoc {w w' : World} {B : Nat} {e : TypeId} {v v' : Value} {S : List SmS} {x : SmS} (h : SmRow w B e v S) (hx : SmAt w (fun b => B ≤ b ∧ v.ownBlock ≠ some b) x)
    (hO : Own w' B e 3 smc v' (S ++ [x])) (hg : w.grownBy w' v.ownBlock) (hat : AtOf w v v') : SmRow w' B e v' (S ++ [x]) := by
  refine ⟨hO, fun z hz => ?_⟩
  have hk : SmAt w (fun b => B ≤ b ∧ v.ownBlock ≠ some b) z := by
    rcases List.mem_append.1 hz with q | q
    · exact h.2 z q
    · rw [List.mem_singleton.1 q]; exact hx
  refine (hk.bound.keep (Keeps.of_grown hg) (fun k _ hk e => hk.1.2 e)).mono (fun k _ hk => ⟨hk.1.1, fun e => ?_⟩)
  rcases hat with q | q
  · rw [q] at e; exact hk.1.2 e
  · rw [q] at e
    have := hk.2
    injection e with e
    omega
theorem SmRow.sms {w : World} {B : Nat} {e : TypeId} {v : Value} {S : List SmS} (h : SmRow w B e v S) : SmsAt w (fun b => B ≤ b) v (S.map SmS.sp) :=
  ⟨S, (h.1.sl (fun _ => rfl)).mono (fun b _ hb => (h.1.lt b hb).1), fun x hx => (h.2 x hx).mono (fun _ _ hk => hk.1), rfl⟩
theorem lt_of_cellP {w : World} {b o : Nat} {v : Value} (h : w.cell? ⟨b, o, none⟩ = some v) : b < w.heap.size := World.block_lt_of_cell? _ _ h
end Go.Proofs.YthebmbhdlkldiaaGreatDoor
