/- The table of readers: Leave, Reads, New, Clear, Oldest. -/
import Derived.Test.YtjbkkmgkckopdaaTab
namespace Go.Proofs.Ytjbkkmgkckopdaa.Rd
open Go.RowKit Go.Proofs.YtjbkkmgkckopdaaW.PrintWords Go.Proofs.YtjbkkmgkckopdaaW.PrintLast Go.Proofs.YtjbkkmgkckopdaaW.PrintMore
set_option linter.unusedVariables false
set_option linter.unusedSimpArgs false
/-- The slot at a place; the table with another one there. -/
def T.at (t : T) (i : Int) : Slot := if i = 0 then t.a else if i = 1 then t.b else if i = 2 then t.c else t.d
def T.put (t : T) (i : Int) (s : Slot) : T := if i = 0 then { t with a := s } else if i = 1 then { t with b := s } else if i = 2 then { t with c := s } else { t with d := s }
def T.leave (t : T) (i : Int) : T × Int := if i < 0 then (t, 1) else if 4 ≤ i then (t, 1) else if (t.at i).2 = false then (t, 7) else (t.put i (0, false), 0)
def T.reads (t : T) (i : Int) : Int × Bool := if i < 0 then (0, false) else if 4 ≤ i then (0, false) else t.at i
def LeavePost (g : Nat) (r : T × Int) (w : World) (e : Ending) (w' : World) : Prop := e = .returned (.int .i64 r.2) ∧ Tb w' g r.1 ∧ Only g w w'
theorem LeavePost.of {g : Nat} {r r' : T × Int} {w w' : World} {e : Ending} (hr : r = r') (he : e = .returned (.int .i64 r'.2)) (ht : Tb w' g r'.1) (ho : Only g w w') : LeavePost g r w e w' := by subst hr; exact ⟨he, ht, ho⟩

set_option maxHeartbeats 4000000 in
set_option maxRecDepth 1000000 in
theorem leave_calls (g : Nat) (a0 b0 c0 d0 : Int) (a1 b1 c1 d1 : Bool) (x : Int) (w : World) (ht : Tab w g (a0, a1) (b0, b1) (c0, c1) (d0, d1)) :
    Calls Try.prog 34 #[.pointer (some ⟨g, 0, none⟩), .int .i64 x] w (LeavePost g (T.leave ⟨(a0, a1), (b0, b1), (c0, c1), (d0, d1)⟩ x) w) := by
  have z0 : w.cell? ⟨g, 0, none⟩ = some (.int .i64 a0) := (blk_cell ht 0).trans rfl
  have z1 : w.cell? ⟨g, 1, none⟩ = some (.bool a1) := (blk_cell ht 1).trans rfl
  have z2 : w.cell? ⟨g, 2, none⟩ = some (.int .i64 b0) := (blk_cell ht 2).trans rfl
  have z3 : w.cell? ⟨g, 3, none⟩ = some (.bool b1) := (blk_cell ht 3).trans rfl
  have z4 : w.cell? ⟨g, 4, none⟩ = some (.int .i64 c0) := (blk_cell ht 4).trans rfl
  have z5 : w.cell? ⟨g, 5, none⟩ = some (.bool c1) := (blk_cell ht 5).trans rfl
  have z6 : w.cell? ⟨g, 6, none⟩ = some (.int .i64 d0) := (blk_cell ht 6).trans rfl
  have z7 : w.cell? ⟨g, 7, none⟩ = some (.bool d1) := (blk_cell ht 7).trans rfl
  have f0 := blk_frozen ht 0
  have f1 := blk_frozen ht 1
  have f2 := blk_frozen ht 2
  have f3 := blk_frozen ht 3
  have f4 := blk_frozen ht 4
  have f5 := blk_frozen ht 5
  have f6 := blk_frozen ht 6
  have f7 := blk_frozen ht 7
  have HT := Aside0.mk ht
  clear ht
  by_cases h1 : x < 0
  · have h2 : decide (x < 0) = true := decide_eq_true h1
    go_enter Try.func34, Try.ntmps34
    go_wp2
    go_ret
    exact LeavePost.of (r' := (⟨(a0, a1), (b0, b1), (c0, c1), (d0, d1)⟩, 1)) (by unfold T.leave; rw [if_pos (by omega)]) rfl HT.out (Only.refl _ _)
  by_cases h3 : 4 ≤ x
  · have h2 : decide (x < 0) = false := decide_eq_false h1
    have h4 : decide (4 ≤ x) = true := decide_eq_true h3
    go_enter Try.func34, Try.ntmps34
    go_wp2
    go_ret
    exact LeavePost.of (r' := (⟨(a0, a1), (b0, b1), (c0, c1), (d0, d1)⟩, 1)) (by unfold T.leave; rw [if_neg (by omega), if_pos (by omega)]) rfl HT.out (Only.refl _ _)
  have hx : x = 0 ∨ x = 1 ∨ x = 2 ∨ x = 3 := by omega
  clear h1 h3
  rcases hx with rfl | rfl | rfl | rfl
  · cases a1 with
    | false =>
      go_enter Try.func34, Try.ntmps34
      go_wp2
      go_ret
      exact LeavePost.of (r' := (⟨(a0, false), (b0, b1), (c0, c1), (d0, d1)⟩, 7)) rfl rfl HT.out (Only.refl _ _)
    | true =>
      go_enter Try.func34, Try.ntmps34
      go_wp2
      go_ret
      exact LeavePost.of (r' := (⟨(0, false), (b0, b1), (c0, c1), (d0, d1)⟩, 0)) rfl rfl (blk_put (blk_put HT.out 0 _ rfl) 1 _ rfl) (((Only.refl g w).set _ _).set _ _)
  · cases b1 with
    | false =>
      go_enter Try.func34, Try.ntmps34
      go_wp2
      go_ret
      exact LeavePost.of (r' := (⟨(a0, a1), (b0, false), (c0, c1), (d0, d1)⟩, 7)) rfl rfl HT.out (Only.refl _ _)
    | true =>
      go_enter Try.func34, Try.ntmps34
      go_wp2
      go_ret
      exact LeavePost.of (r' := (⟨(a0, a1), (0, false), (c0, c1), (d0, d1)⟩, 0)) rfl rfl (blk_put (blk_put HT.out 2 _ rfl) 3 _ rfl) (((Only.refl g w).set _ _).set _ _)
  · cases c1 with
    | false =>
      go_enter Try.func34, Try.ntmps34
      go_wp2
      go_ret
      exact LeavePost.of (r' := (⟨(a0, a1), (b0, b1), (c0, false), (d0, d1)⟩, 7)) rfl rfl HT.out (Only.refl _ _)
    | true =>
      go_enter Try.func34, Try.ntmps34
      go_wp2
      go_ret
      exact LeavePost.of (r' := (⟨(a0, a1), (b0, b1), (0, false), (d0, d1)⟩, 0)) rfl rfl (blk_put (blk_put HT.out 4 _ rfl) 5 _ rfl) (((Only.refl g w).set _ _).set _ _)
  · cases d1 with
    | false =>
      go_enter Try.func34, Try.ntmps34
      go_wp2
      go_ret
      exact LeavePost.of (r' := (⟨(a0, a1), (b0, b1), (c0, c1), (d0, false)⟩, 7)) rfl rfl HT.out (Only.refl _ _)
    | true =>
      go_enter Try.func34, Try.ntmps34
      go_wp2
      go_ret
      exact LeavePost.of (r' := (⟨(a0, a1), (b0, b1), (c0, c1), (0, false)⟩, 0)) rfl rfl (blk_put (blk_put HT.out 6 _ rfl) 7 _ rfl) (((Only.refl g w).set _ _).set _ _)

def ReadsPost (r : Int × Bool) (w : World) (e : Ending) (w' : World) : Prop := e = .returned (.tuple #[.int .i64 r.1, .bool r.2]) ∧ ∃ n, w' = w.drewN n
theorem ReadsPost.of {r r' : Int × Bool} {w w' : World} {e : Ending} (hr : r = r') (he : e = .returned (.tuple #[.int .i64 r'.1, .bool r'.2])) (ho : ∃ n, w' = w.drewN n) : ReadsPost r w e w' := by subst hr; exact ⟨he, ho⟩
set_option maxHeartbeats 4000000 in
set_option maxRecDepth 1000000 in
theorem reads_calls (g : Nat) (a0 b0 c0 d0 : Int) (a1 b1 c1 d1 : Bool) (x : Int) (w : World) (ht : Tab w g (a0, a1) (b0, b1) (c0, c1) (d0, d1)) :
    Calls Try.prog 42 #[.pointer (some ⟨g, 0, none⟩), .int .i64 x] w (ReadsPost (T.reads ⟨(a0, a1), (b0, b1), (c0, c1), (d0, d1)⟩ x) w) := by
  have z0 : w.cell? ⟨g, 0, none⟩ = some (.int .i64 a0) := (blk_cell ht 0).trans rfl
  have z1 : w.cell? ⟨g, 1, none⟩ = some (.bool a1) := (blk_cell ht 1).trans rfl
  have z2 : w.cell? ⟨g, 2, none⟩ = some (.int .i64 b0) := (blk_cell ht 2).trans rfl
  have z3 : w.cell? ⟨g, 3, none⟩ = some (.bool b1) := (blk_cell ht 3).trans rfl
  have z4 : w.cell? ⟨g, 4, none⟩ = some (.int .i64 c0) := (blk_cell ht 4).trans rfl
  have z5 : w.cell? ⟨g, 5, none⟩ = some (.bool c1) := (blk_cell ht 5).trans rfl
  have z6 : w.cell? ⟨g, 6, none⟩ = some (.int .i64 d0) := (blk_cell ht 6).trans rfl
  have z7 : w.cell? ⟨g, 7, none⟩ = some (.bool d1) := (blk_cell ht 7).trans rfl
  clear ht
  by_cases h1 : x < 0
  · have h2 : decide (x < 0) = true := decide_eq_true h1
    go_enter Try.func42, Try.ntmps42
    go_wp2
    go_ret2
    exact ReadsPost.of (r' := (0, false)) (by unfold T.reads; rw [if_pos (by omega)]) rfl ⟨0, rfl⟩
  by_cases h3 : 4 ≤ x
  · have h2 : decide (x < 0) = false := decide_eq_false h1
    have h4 : decide (4 ≤ x) = true := decide_eq_true h3
    go_enter Try.func42, Try.ntmps42
    go_wp2
    go_ret2
    exact ReadsPost.of (r' := (0, false)) (by unfold T.reads; rw [if_neg (by omega), if_pos (by omega)]) rfl ⟨0, rfl⟩
  have hx : x = 0 ∨ x = 1 ∨ x = 2 ∨ x = 3 := by omega
  clear h1 h3
  rcases hx with rfl | rfl | rfl | rfl
  · go_enter Try.func42, Try.ntmps42
    go_wp2
    go_quiet (fail)
    go_wp2
    go_ret2
    exact ReadsPost.of (r' := (a0, a1)) rfl rfl ⟨_, rfl⟩
  · go_enter Try.func42, Try.ntmps42
    go_wp2
    go_quiet (fail)
    go_wp2
    go_ret2
    exact ReadsPost.of (r' := (b0, b1)) rfl rfl ⟨_, rfl⟩
  · go_enter Try.func42, Try.ntmps42
    go_wp2
    go_quiet (fail)
    go_wp2
    go_ret2
    exact ReadsPost.of (r' := (c0, c1)) rfl rfl ⟨_, rfl⟩
  · go_enter Try.func42, Try.ntmps42
    go_wp2
    go_quiet (fail)
    go_wp2
    go_ret2
    exact ReadsPost.of (r' := (d0, d1)) rfl rfl ⟨_, rfl⟩

theorem new_calls (w : World) : Calls Try.prog 32 #[] w fun e w' => e = .returned (.pointer (some ⟨w.heap.size, 0, none⟩)) ∧ Tb w' w.heap.size ⟨(0, false), (0, false), (0, false), (0, false)⟩ ∧ Below w.heap.size w w' := by
  go_enter Try.func32, Try.ntmps32
  go_wp2
  go_ret
  exact ⟨rfl, blk_new _ _, below_alloc (Below.refl _ _) _⟩
end Go.Proofs.Ytjbkkmgkckopdaa.Rd
