/- The table of readers: Enter, Leave, Reads, Oldest, Clear, New. -/
import Derived.Test.YtjbkkmgkckopdaaLive
namespace Go.Proofs.Ytjbkkmgkckopdaa.Rd
open Go.RowKit Go.Proofs.YtjbkkmgkckopdaaW.PrintWords Go.Proofs.YtjbkkmgkckopdaaW.PrintLast Go.Proofs.YtjbkkmgkckopdaaW.PrintMore
set_option linter.unusedVariables false
set_option linter.unusedSimpArgs false
structure T where
  a : Slot
  b : Slot
  c : Slot
  d : Slot
def Tb (w : World) (g : Nat) (t : T) : Prop := Tab w g t.a t.b t.c t.d
def T.enter (t : T) (x : Int) : T × Int × Int :=
  if x < 0 then (t, 0, 1) else if 1099511627776 < x then (t, 0, 1)
  else if t.a.2 = false then (⟨(x, true), t.b, t.c, t.d⟩, 0, 0)
  else if t.b.2 = false then (⟨t.a, (x, true), t.c, t.d⟩, 1, 0)
  else if t.c.2 = false then (⟨t.a, t.b, (x, true), t.d⟩, 2, 0)
  else if t.d.2 = false then (⟨t.a, t.b, t.c, (x, true)⟩, 3, 0)
  else (t, 0, 9)
/-- Two numbers are told, the table is turned. -/
def EnterPost (g : Nat) (r : T × Int × Int) (w : World) (e : Ending) (w' : World) : Prop := e = .returned (.tuple #[.int .i64 r.2.1, .int .i64 r.2.2]) ∧ Tb w' g r.1 ∧ Only g w w'
theorem EnterPost.of {g : Nat} {r r' : T × Int × Int} {w w' : World} {e : Ending} (hr : r = r') (he : e = .returned (.tuple #[.int .i64 r'.2.1, .int .i64 r'.2.2])) (ht : Tb w' g r'.1) (ho : Only g w w') : EnterPost g r w e w' := by subst hr; exact ⟨he, ht, ho⟩
theorem tab_set {w : World} {g : Nat} {cs cs' : Array Value} (h : w.heap[g]? = some (.cells cs 130 (0, 0))) (i : Nat) (u u' : Value) (e : (cs.setIfInBounds i u).setIfInBounds (i + 1) u' = cs') : ((w.setCell ⟨g, i, none⟩ u).setCell ⟨g, i + 1, none⟩ u').heap[g]? = some (.cells cs' 130 (0, 0)) :=
  blk_put (blk_put h i u rfl) (i + 1) u' e

set_option maxHeartbeats 4000000 in
set_option maxRecDepth 1000000 in
theorem enter_calls (g : Nat) (a0 b0 c0 d0 : Int) (a1 b1 c1 d1 : Bool) (x : Int) (w : World) (ht : Tab w g (a0, a1) (b0, b1) (c0, c1) (d0, d1)) :
    Calls Try.prog 33 #[.pointer (some ⟨g, 0, none⟩), .int .i64 x] w (EnterPost g (T.enter ⟨(a0, a1), (b0, b1), (c0, c1), (d0, d1)⟩ x) w) := by
  have z0 : w.cell? ⟨g, 0, none⟩ = some (.int .i64 a0) := (blk_cell ht 0).trans rfl
  have z1 : w.cell? ⟨g, 1, none⟩ = some (.bool a1) := (blk_cell ht 1).trans rfl
  have z2 : w.cell? ⟨g, 2, none⟩ = some (.int .i64 b0) := (blk_cell ht 2).trans rfl
  have z3 : w.cell? ⟨g, 3, none⟩ = some (.bool b1) := (blk_cell ht 3).trans rfl
  have z4 : w.cell? ⟨g, 4, none⟩ = some (.int .i64 c0) := (blk_cell ht 4).trans rfl
  have z5 : w.cell? ⟨g, 5, none⟩ = some (.bool c1) := (blk_cell ht 5).trans rfl
  have z6 : w.cell? ⟨g, 6, none⟩ = some (.int .i64 d0) := (blk_cell ht 6).trans rfl
  have z7 : w.cell? ⟨g, 7, none⟩ = some (.bool d1) := (blk_cell ht 7).trans rfl
  have f0 := blk_frozen ht 0
  have f1 := blk_frozen ht 1
  have f2 := blk_frozen ht 2
  have f3 := blk_frozen ht 3
  have f4 := blk_frozen ht 4
  have f5 := blk_frozen ht 5
  have f6 := blk_frozen ht 6
  have f7 := blk_frozen ht 7
  have HT := Aside0.mk ht
  clear ht
  by_cases h1 : x < 0
  · have h2 : decide (x < 0) = true := decide_eq_true h1
    go_enter Try.func33, Try.ntmps33
    go_wp2
    go_ret2
    exact EnterPost.of (r' := (⟨(a0, a1), (b0, b1), (c0, c1), (d0, d1)⟩, 0, 1)) (by unfold T.enter; rw [if_pos h1]) rfl HT.out (Only.refl _ _)
  by_cases h3 : 1099511627776 < x
  · have h2 : decide (x < 0) = false := decide_eq_false h1
    have h4 : decide (1099511627776 < x) = true := decide_eq_true h3
    go_enter Try.func33, Try.ntmps33
    go_wp2
    go_ret2
    exact EnterPost.of (r' := (⟨(a0, a1), (b0, b1), (c0, c1), (d0, d1)⟩, 0, 1)) (by unfold T.enter; rw [if_neg (by omega), if_pos h3]) rfl HT.out (Only.refl _ _)
  have h2 : decide (x < 0) = false := decide_eq_false h1
  have h4 : decide (1099511627776 < x) = false := decide_eq_false h3
  cases a1 with
  | false =>
    go_enter Try.func33, Try.ntmps33
    go_wp2
    refine wp_loop_rounds 5 ?_
    rw [rounds_succ]
    go_wp2
    go_ret2
    exact EnterPost.of (r' := (⟨(x, true), (b0, b1), (c0, c1), (d0, d1)⟩, 0, 0)) (by unfold T.enter; rw [if_neg (by omega), if_neg (by omega)]; rfl) rfl (blk_put (blk_put HT.out 0 _ rfl) 1 _ rfl) (((Only.refl g w).set _ _).set _ _)
  | true =>
    cases b1 with
    | false =>
      go_enter Try.func33, Try.ntmps33
      go_wp2
      refine wp_loop_rounds 5 ?_
      rw [rounds_succ]
      go_wp2
      rw [rounds_succ]
      go_wp2
      go_ret2
      exact EnterPost.of (r' := (⟨(a0, true), (x, true), (c0, c1), (d0, d1)⟩, 1, 0)) (by unfold T.enter; rw [if_neg (by omega), if_neg (by omega)]; rfl) rfl (blk_put (blk_put HT.out 2 _ rfl) 3 _ rfl) (((Only.refl g w).set _ _).set _ _)
    | true =>
      cases c1 with
      | false =>
        go_enter Try.func33, Try.ntmps33
        go_wp2
        refine wp_loop_rounds 5 ?_
        rw [rounds_succ]
        go_wp2
        rw [rounds_succ]
        go_wp2
        rw [rounds_succ]
        go_wp2
        go_ret2
        exact EnterPost.of (r' := (⟨(a0, true), (b0, true), (x, true), (d0, d1)⟩, 2, 0)) (by unfold T.enter; rw [if_neg (by omega), if_neg (by omega)]; rfl) rfl (blk_put (blk_put HT.out 4 _ rfl) 5 _ rfl) (((Only.refl g w).set _ _).set _ _)
      | true =>
        cases d1 with
        | false =>
          go_enter Try.func33, Try.ntmps33
          go_wp2
          refine wp_loop_rounds 5 ?_
          rw [rounds_succ]
          go_wp2
          rw [rounds_succ]
          go_wp2
          rw [rounds_succ]
          go_wp2
          rw [rounds_succ]
          go_wp2
          go_ret2
          exact EnterPost.of (r' := (⟨(a0, true), (b0, true), (c0, true), (x, true)⟩, 3, 0)) (by unfold T.enter; rw [if_neg (by omega), if_neg (by omega)]; rfl) rfl (blk_put (blk_put HT.out 6 _ rfl) 7 _ rfl) (((Only.refl g w).set _ _).set _ _)
        | true =>
          go_enter Try.func33, Try.ntmps33
          go_wp2
          refine wp_loop_rounds 5 ?_
          rw [rounds_succ]
          go_wp2
          rw [rounds_succ]
          go_wp2
          rw [rounds_succ]
          go_wp2
          rw [rounds_succ]
          go_wp2
          rw [rounds_succ]
          go_wp2
          go_ret2
          exact EnterPost.of (r' := (⟨(a0, true), (b0, true), (c0, true), (d0, true)⟩, 0, 9)) (by unfold T.enter; rw [if_neg (by omega), if_neg (by omega)]; rfl) rfl HT.out (Only.refl _ _)
end Go.Proofs.Ytjbkkmgkckopdaa.Rd
