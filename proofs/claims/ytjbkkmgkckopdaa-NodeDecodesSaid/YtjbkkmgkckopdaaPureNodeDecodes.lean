/- Any bytes are a node's, or none's: of every string of at most 2000 bytes node.Decode and the reference's Decode give the same cells and the same error; longer strings are let go by the statement itself. -/
import Derived.Test.YtjbkkmgkckopdaaNodeH
namespace Go.Proofs.Ytjbkkmgkckopdaa.Pure
open Go.RowKit Go.Proofs.Ytjbkkmgkckopdaa.PN Go.Proofs.YtjbkkmgkckopdaaW.PrintWords Go.Proofs.YtjbkkmgkckopdaaW.PrintLast

theorem NodeDecodes : rollbooklaw06_NodeDecodes.Pure := by
  intro leaf s _
  refine Ev.rounds (g := fun k => rollbooklaw06_NodeDecodes.f k leaf s) ?_
  refine Ev.congr (fun k => by rw [rollbooklaw06_NodeDecodes.f]) (Ev.bind awake_ev ?_)
  refine Ev.congr (fun k => by rw [if_pos rfl]) ?_
  by_cases c : (s.size : Int) > 2000
  · exact Ev.congr (fun k => by rw [if_pos c]) (Ev.now _)
  · obtain ⟨r, h1, h2⟩ := both leaf s (by omega)
    refine Ev.congr (fun k => by rw [if_neg c]) (Ev.bind h1 (Ev.bind h2 ?_))
    exact Ev.congr (fun k => by rw [if_pos rfl]) (Ev.bind (same_ev r.1 (len_both (by omega) h1)) (Ev.now _))

end Go.Proofs.Ytjbkkmgkckopdaa.Pure
