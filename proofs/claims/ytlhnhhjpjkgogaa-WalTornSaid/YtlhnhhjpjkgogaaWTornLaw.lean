/- WalTorn returns true, whatever two frames and whatever front. -/
import Derived.Test.YtlhnhhjpjkgogaaWTornGa
import Derived.Test.YtlhnhhjpjkgogaaWTornGb
import Derived.Test.YtlhnhhjpjkgogaaWTornGc
import Derived.Test.YtlhnhhjpjkgogaaWTornGd
import Derived.Test.YtlhnhhjpjkgogaaWTornGe
import Derived.Test.YtlhnhhjpjkgogaaWTornGf
import Derived.Test.YtlhnhhjpjkgogaaWTornGg
import Derived.Test.YtlhnhhjpjkgogaaWTornGh
import Derived.Test.YtlhnhhjpjkgogaaWTornGi
import Derived.Test.YtlhnhhjpjkgogaaWTornH
namespace Go.Proofs.Ytlhnhhjpjkgogaa.wl
open Go.RowKit Go.Proofs.Ytlhnhhjpjkgogaa.agg Go.Proofs.Ytlhnhhjpjkgogaa.dk

theorem torn_walk (w : World) (f g : Fr) (front : Int) (hf : 0 ≤ front ∧ front < 256) :
    Calls Try.prog 3 #[.agg f.cells, .agg g.cells, .int .u8 front] w fun e w' => e = .returned (.bool true) ∧ Below w.heap.size w w' := by
  cases hsk : skips f g with
  | false => exact torn_no w f g front hf hsk
  | true =>
    have h := skips_yes hsk
    by_cases c0 : (50 : Int) < f.data.size
    · exact torn_skip0 w f g front c0
    by_cases c1 : (50 : Int) < g.data.size
    · exact torn_skip1 w f g front c0 c1
    by_cases c2 : 4294967295 ≤ imax f.epoch g.epoch
    · exact torn_skip2 w f g front c0 c1 c2
    by_cases c3 : imin f.epoch g.epoch < 1
    · exact torn_skip3 w f g front c0 c1 c2 c3
    by_cases c4 : 1000 < imax f.pos g.pos
    · exact torn_skip4 w f g front c0 c1 c2 c3 c4
    by_cases c5 : imin f.pos g.pos < 0
    · exact torn_skip5 w f g front c0 c1 c2 c3 c4 c5
    by_cases c6 : ((f.epoch == g.epoch) && (f.pos == g.pos)) = true
    · have q : f.epoch = g.epoch ∧ f.pos = g.pos := by simpa using c6
      exact torn_skip6 w f g front c0 c1 c2 c3 c4 c5 q.1 q.2
    have r : ((f.epoch == g.epoch) && (f.pos == g.pos)) = false := by rw [Bool.eq_false_iff]; exact c6
    by_cases c7 : f.kind < 1
    · exact torn_skip7 w f g front c0 c1 c2 c3 c4 c5 r c7
    by_cases c8 : 4 < f.kind
    · exact torn_skip8 w f g front c0 c1 c2 c3 c4 c5 r c7 c8
    by_cases c9 : g.kind < 1
    · exact torn_skip9 w f g front c0 c1 c2 c3 c4 c5 r c7 c8 c9
    have c10 : 4 < g.kind := by
      rcases h with h | h | h | h | h | h | h | h | h | h | h <;> first | exact absurd h ‹_› | exact h
    exact torn_skip10 w f g front c0 c1 c2 c3 c4 c5 r c7 c8 c9 c10
end Go.Proofs.Ytlhnhhjpjkgogaa.wl
