/- DevLasts' walk, as the row hands it its lists. -/
import Derived.Test.YtjbkkmgkckopdaaDevR
namespace Go.Proofs.Ytjbkkmgkckopdaa.Dv
open Go.RowKit
set_option linter.unusedVariables false
theorem ints_row {H : Type} {enc : TypeId × Value → H} {W : World} {fuel : Nat} {cs : List Value} {x : DataW H × List MemPlace} (h : DataW.trod enc Try.prog W 0 (fun _ => true) true fuel 55 cs = some x) :
    ∃ (p : Option Addr) (n c : Nat) (l : List Int), cs = [.slice p n c] ∧ l.length = n ∧ l.length ≤ 9223372036854775807 ∧ IntsAt W p l := by
  obtain ⟨p, c, l, h1, h2, h3⟩ := ints_open h
  exact ⟨p, l.length, c, l, h1, rfl, h2, h3⟩
theorem lasts_row {q : Option Addr} {n cap : Nat} {l : List Act3} {w : World} (h : l.length = n ∧ l.length ≤ 9223372036854775807 ∧ ActsAt w q l) (i : Int) {p : Option Addr} {m pc : Nat} {picks : List Int} (hp : picks.length = m ∧ picks.length ≤ 9223372036854775807 ∧ IntsAt w p picks) :
    Calls Try.prog 9 #[.slice q n cap, .int .i64 i, .slice p m pc] w (Tell (.bool true) w) := by
  obtain ⟨rfl, h1, h2⟩ := h
  obtain ⟨rfl, h3, h4⟩ := hp
  exact devLasts_calls q cap l i p picks pc w h2 h1 h4 h3
end Go.Proofs.Ytjbkkmgkckopdaa.Dv
