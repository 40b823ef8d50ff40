/- How the parser and the reference's parser answer, for a text of any size that the laws look at: the same. -/
import Derived.Test.YthggagophcnkfaaGreatDoorM38
import Derived.Test.YthggagophcnkfaaGreatDoorM37
namespace Go.Proofs.YthggagophcnkfaaGreatDoor.py
open Go.RowKit Go.Proofs.YthggagophcnkfaaGreatDoor.agg Go.Proofs.YthggagophcnkfaaGreatDoor.sx Go.Proofs.YthggagophcnkfaaGreatDoor.lx Go.Proofs.YthggagophcnkfaaGreatDoor.px Go.Proofs.YthggagophcnkfaaGreatDoor.so
set_option linter.unusedSimpArgs false
set_option linter.unusedVariables false
def AEnd (w : World) (t : Tr) (l : List Dg) (er : Int) (e : Ending) (w' : World) : Prop :=
 ∃ ao cap al cl, e = .returned (.tuple #[.agg #[.int .i64 t.kind, .string t.text, .int .i64 t.fr, .int .i64 t.to, .slice ao t.kids.length cap], .slice al l.length cl, .int .i64 er]) ∧ TreesIn w' (.slice ao t.kids.length cap) t.kids ∧ DgsIn w' (.slice al l.length cl) l ∧ Below w.heap.size w w'
theorem AEnd.of_read {w : World} {r : Tr × List Dg} {e : Ending} {w' : World} (h : PEnd w r e w') : AEnd w r.1 r.2 0 e w' := by
 obtain ⟨ao, cap, lv, rfl, h1, h2, h3⟩ := h
 have h2' := h2
 obtain ⟨al, cl, rfl, _⟩ := h2'
 exact ⟨ao, cap, al, cl, rfl, h1, h2, h3⟩
theorem AEnd.of_ref {w : World} {r : Tr × List Dg} {e : Ending} {w' : World} (h : RParseEnd w r e w') : AEnd w r.1 r.2 0 e w' ∧ r.2.length ≤ 50000 := by
 obtain ⟨lv, nk, nt, na, ne, nao, ncap, nks, rfl, h1, h2, h3, h4, h5⟩ := h
 have hl : r.1.kids.length = nks.length := by
  rw [← h1, Nd.tr_kids, List.length_map]
  rfl
 have h3' := h3
 obtain ⟨al, cl, rfl, _⟩ := h3'
 cases h2 with
 | mk k1 k2 =>
  refine ⟨⟨nao, ncap, al, cl, ?_, ?_, h3, h4⟩, h5⟩
  ·rw [hl, ← h1]
   rfl
  ·rw [hl]
   exact ⟨_, nks, k1, k2, by rw [← h1]; rfl⟩
theorem AEnd.of_large {w : World} {e : Ending} {w' : World} (h : LargeEnd w e w') : AEnd w ⟨0, ⟨#[]⟩, 0, 0, []⟩ [] 8 e w' := by
 obtain ⟨rfl, h1⟩ := h
 refine ⟨none, 0, none, 0, rfl, ⟨fun _ => True, [], ⟨none, 0, rfl, by decide, fun h => absurd h (Nat.not_lt_zero _)⟩, fun n hn => absurd hn (by simp), rfl⟩, ⟨none, 0, rfl, fun i hi => absurd hi (Nat.not_lt_zero _)⟩, h1⟩
end Go.Proofs.YthggagophcnkfaaGreatDoor.py
