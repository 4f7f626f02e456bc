/- Metas: may one be, its bytes, the meta of bytes, the newest of two. -/
import Derived.Test.YtjbkkmgkckopdaaDoorLay
import Derived.Test.YtjbkkmgkckopdaaDoorCrc
import Derived.Test.YtjbkkmgkckopdaaDoorPgPure
namespace Go.Proofs.YtjbkkmgkckopdaaDoor.Pg
open Go.RowKit Go.Proofs.YtjbkkmgkckopdaaDoorW.PrintWords Go.Proofs.YtjbkkmgkckopdaaDoorW.PrintLast Go.Proofs.YtjbkkmgkckopdaaDoorW.PrintMore Go.Proofs.YtjbkkmgkckopdaaDoor.Num Go.Proofs.YtjbkkmgkckopdaaDoor.Mem
set_option linter.unusedVariables false
set_option linter.unusedSimpArgs false
def inb (x lo hi : Int) : Bool := decide (lo ≤ x) && decide (x ≤ hi)
theorem within_calls (x lo hi : Int) (w : World) : Calls Tryd.prog 55 #[.int .i64 x, .int .i64 lo, .int .i64 hi] w fun e w' => e = .returned (.bool (inb x lo hi)) ∧ w = w' := by
  unfold inb
  by_cases h1 : lo ≤ x
  · have e1 : decide (lo ≤ x) = true := decide_eq_true h1
    rw [e1, Bool.true_and]
    go_enter Tryd.func55, Tryd.ntmps55
    go_wp2_with fail
    go_ret
    exact ⟨rfl, rfl⟩
  · have e1 : decide (lo ≤ x) = false := decide_eq_false h1
    rw [e1, Bool.false_and]
    go_enter Tryd.func55, Tryd.ntmps55
    go_wp2_with fail
    go_ret
    exact ⟨rfl, rfl⟩
theorem of_inb {x lo hi : Int} (h : inb x lo hi = true) : lo ≤ x ∧ x ≤ hi := by
  unfold inb at h
  rw [Bool.and_eq_true, decide_eq_true_eq, decide_eq_true_eq] at h
  exact h
def M.cells (m : M) : Array Value := #[.int .i64 m.txn, .int .i64 m.root, .int .i64 m.free, .int .i64 m.pages, .int .i64 m.limit]
theorem right_inb (m : M) : decide m.right = (inb m.txn 0 1099511627776 && (inb m.limit 2 512 && (inb m.pages 1 m.limit && (inb m.root 0 (m.pages - 1) && inb m.free 0 (m.pages - 1))))) := by
  rw [Bool.eq_iff_iff, decide_eq_true_iff]
  simp only [decide_eq_true_eq, Bool.and_eq_true, inb]
  unfold M.right
  constructor
  · rintro ⟨h1, h2, h3, h4, h5, h6, h7, h8, h9, h10⟩
    exact ⟨⟨h1, h2⟩, ⟨h3, h4⟩, ⟨h5, h6⟩, ⟨h7, h8⟩, h9, h10⟩
  · rintro ⟨⟨h1, h2⟩, ⟨h3, h4⟩, ⟨h5, h6⟩, ⟨h7, h8⟩, h9, h10⟩
    exact ⟨h1, h2, h3, h4, h5, h6, h7, h8, h9, h10⟩
set_option maxHeartbeats 2000000 in
set_option maxRecDepth 100000 in
theorem right_calls (m : M) (w : World) : Calls Tryd.prog 42 #[.agg m.cells] w fun e w' => e = .returned (.bool (decide m.right)) ∧ Below w.heap.size w w' := by
  rw [right_inb]
  have HI := Aside0.mk (fun x lo hi W => within_calls x lo hi W)
  unfold M.cells
  have hw : 1 ≤ m.pages → m.pages ≤ 512 → IntKind.i64.wrap (m.pages - 1) = m.pages - 1 := fun h h' => by rw [IntKind.wrap_i64]; omega
  obtain ⟨txn, root, free, pages, limit⟩ := m
  dsimp only at *
  have HB := Aside0.mk (below_alloc (Below.refl w.heap.size w) (.cells #[.int .i64 txn, .int .i64 root, .int .i64 free, .int .i64 pages, .int .i64 limit] 32))
  cases e0 : inb txn 0 1099511627776 with
  | false =>
    simp only [Bool.and_false, Bool.false_and, Bool.true_and]
    go_enter Tryd.func42, Tryd.ntmps42
    go_wp2_with fail
    refine (HI.out _ _ _ _).mono ?_
    rintro e w1 ⟨rfl, rfl⟩
    go_wp2_with fail
    go_ret
    exact ⟨rfl, HB.out⟩
  | true =>
    cases e1 : inb limit 2 512 with
    | false =>
      simp only [Bool.and_false, Bool.false_and, Bool.true_and]
      go_enter Tryd.func42, Tryd.ntmps42
      go_wp2_with fail
      refine (HI.out _ _ _ _).mono ?_
      rintro e w1 ⟨rfl, rfl⟩
      go_wp2_with fail
      refine (HI.out _ _ _ _).mono ?_
      rintro e w1 ⟨rfl, rfl⟩
      go_wp2_with fail
      go_ret
      exact ⟨rfl, HB.out⟩
    | true =>
      cases e2 : inb pages 1 limit with
      | false =>
        simp only [Bool.and_false, Bool.false_and, Bool.true_and]
        go_enter Tryd.func42, Tryd.ntmps42
        go_wp2_with fail
        refine (HI.out _ _ _ _).mono ?_
        rintro e w1 ⟨rfl, rfl⟩
        go_wp2_with fail
        refine (HI.out _ _ _ _).mono ?_
        rintro e w1 ⟨rfl, rfl⟩
        go_wp2_with fail
        refine (HI.out _ _ _ _).mono ?_
        rintro e w1 ⟨rfl, rfl⟩
        go_wp2_with fail
        go_ret
        exact ⟨rfl, HB.out⟩
      | true =>
        have hpw : IntKind.i64.wrap (pages - 1) = pages - 1 := hw (of_inb e2).1 (by have := of_inb e1; have := of_inb e2; omega)
        cases e3 : inb root 0 (pages - 1) with
        | false =>
          simp only [Bool.and_false, Bool.false_and, Bool.true_and]
          go_enter Tryd.func42, Tryd.ntmps42
          go_wp2_with fail
          refine (HI.out _ _ _ _).mono ?_
          rintro e w1 ⟨rfl, rfl⟩
          go_wp2_with fail
          refine (HI.out _ _ _ _).mono ?_
          rintro e w1 ⟨rfl, rfl⟩
          go_wp2_with fail
          refine (HI.out _ _ _ _).mono ?_
          rintro e w1 ⟨rfl, rfl⟩
          go_wp2_with fail
          refine (HI.out _ _ _ _).mono ?_
          rintro e w1 ⟨rfl, rfl⟩
          go_wp2_with fail
          go_ret
          exact ⟨rfl, HB.out⟩
        | true =>
          cases e4 : inb free 0 (pages - 1) with
          | false =>
            simp only [Bool.and_false, Bool.false_and, Bool.true_and]
            go_enter Tryd.func42, Tryd.ntmps42
            go_wp2_with fail
            refine (HI.out _ _ _ _).mono ?_
            rintro e w1 ⟨rfl, rfl⟩
            go_wp2_with fail
            refine (HI.out _ _ _ _).mono ?_
            rintro e w1 ⟨rfl, rfl⟩
            go_wp2_with fail
            refine (HI.out _ _ _ _).mono ?_
            rintro e w1 ⟨rfl, rfl⟩
            go_wp2_with fail
            refine (HI.out _ _ _ _).mono ?_
            rintro e w1 ⟨rfl, rfl⟩
            go_wp2_with fail
            refine (HI.out _ _ _ _).mono ?_
            rintro e w1 ⟨rfl, rfl⟩
            go_wp2_with fail
            go_ret
            exact ⟨rfl, HB.out⟩
          | true =>
            simp only [Bool.and_self, Bool.and_true, Bool.true_and]
            go_enter Tryd.func42, Tryd.ntmps42
            go_wp2_with fail
            refine (HI.out _ _ _ _).mono ?_
            rintro e w1 ⟨rfl, rfl⟩
            go_wp2_with fail
            refine (HI.out _ _ _ _).mono ?_
            rintro e w1 ⟨rfl, rfl⟩
            go_wp2_with fail
            refine (HI.out _ _ _ _).mono ?_
            rintro e w1 ⟨rfl, rfl⟩
            go_wp2_with fail
            refine (HI.out _ _ _ _).mono ?_
            rintro e w1 ⟨rfl, rfl⟩
            go_wp2_with fail
            refine (HI.out _ _ _ _).mono ?_
            rintro e w1 ⟨rfl, rfl⟩
            go_wp2_with fail
            go_ret
            exact ⟨rfl, HB.out⟩
end Go.Proofs.YtjbkkmgkckopdaaDoor.Pg
