/- ReadersPlay's walk, as the row hands it its list. -/
import Derived.Test.YtjbkkmgkckopdaaPlay
import Derived.Test.YtjbkkmgkckopdaaActs
namespace Go.Proofs.Ytjbkkmgkckopdaa.Rd
open Go.RowKit
theorem play_row {A : Option Addr} {n c : Nat} {l : List (Int × Int)} {w : World} (p : l.length = n ∧ n ≤ c ∧ l.length ≤ 9223372036854775807 ∧ ActsAt w A l) : Calls Try.prog 7 #[.slice A n c] w (YesPost w) := by
  obtain ⟨rfl, h1, h2, h3⟩ := p
  exact play_calls A c l w h2 h1 h3
end Go.Proofs.Ytjbkkmgkckopdaa.Rd
