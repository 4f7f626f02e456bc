/- The reference's table of readers: New, Enter, Leave, Reads, Oldest, Times, Count. -/
import Derived.Test.YtjbkkmgkckopdaaTab3
namespace Go.Proofs.Ytjbkkmgkckopdaa.Rd
open Go.RowKit Go.Proofs.YtjbkkmgkckopdaaW.PrintWords Go.Proofs.YtjbkkmgkckopdaaW.PrintLast Go.Proofs.YtjbkkmgkckopdaaW.PrintMore
set_option linter.unusedVariables false
set_option linter.unusedSimpArgs false
/-- The reference's table at block h, its row at block q. -/
def RT (w : World) (h q : Nat) (r : R) : Prop :=
  w.heap[h]? = some (.cells #[.slice (some ⟨q, 0, none⟩) 4 4] 132 (0, 0)) ∧ w.heap[q]? = some (.cells #[.int .i64 r.a, .int .i64 r.b, .int .i64 r.c, .int .i64 r.d] 3 (0, 0)) ∧ h ≠ q
theorem RT.put {w : World} {h q : Nat} {r r' : R} (ht : RT w h q r) (i : Nat) (u : Value) (e : (#[.int .i64 r.a, .int .i64 r.b, .int .i64 r.c, .int .i64 r.d] : Array Value).setIfInBounds i u = #[.int .i64 r'.a, .int .i64 r'.b, .int .i64 r'.c, .int .i64 r'.d]) : RT (w.setCell ⟨q, i, none⟩ u) h q r' :=
  ⟨blk_far ht.1 ht.2.2 _, blk_put ht.2.1 i u e, ht.2.2⟩
theorem RT.move {w w' : World} {h q : Nat} {r : R} (ht : RT w h q r) (h1 : w'.heap[h]? = w.heap[h]?) (h2 : w'.heap[q]? = w.heap[q]?) : RT w' h q r := ⟨h1.trans ht.1, h2.trans ht.2.1, ht.2.2⟩
theorem RT.lt {w : World} {h q : Nat} {r : R} (ht : RT w h q r) : h < w.heap.size ∧ q < w.heap.size := ⟨blk_lt ht.1, blk_lt ht.2.1⟩
/-- Two numbers are told, the reference's table is turned. -/
def REnterPost (h q : Nat) (r : R × Int × Int) (w : World) (e : Ending) (w' : World) : Prop := e = .returned (.tuple #[.int .i64 r.2.1, .int .i64 r.2.2]) ∧ RT w' h q r.1 ∧ Only q w w'
theorem REnterPost.of {h q : Nat} {r r' : R × Int × Int} {w w' : World} {e : Ending} (hr : r = r') (he : e = .returned (.tuple #[.int .i64 r'.2.1, .int .i64 r'.2.2])) (ht : RT w' h q r'.1) (ho : Only q w w') : REnterPost h q r w e w' := by subst hr; exact ⟨he, ht, ho⟩
set_option maxHeartbeats 4000000 in
set_option maxRecDepth 1000000 in
theorem ref_enter (h q : Nat) (a b c d : Int) (x : Int) (w : World) (ht : RT w h q ⟨a, b, c, d⟩) : Calls Try.prog 37 #[.pointer (some ⟨h, 0, none⟩), .int .i64 x] w (REnterPost h q (R.enter ⟨a, b, c, d⟩ x) w) := by
  have z : w.cell? ⟨h, 0, none⟩ = some (.slice (some ⟨q, 0, none⟩) 4 4) := (blk_cell ht.1 0).trans rfl
  have y0 : w.cell? ⟨q, 0, none⟩ = some (.int .i64 a) := (blk_cell ht.2.1 0).trans rfl
  have y1 : w.cell? ⟨q, 1, none⟩ = some (.int .i64 b) := (blk_cell ht.2.1 1).trans rfl
  have y2 : w.cell? ⟨q, 2, none⟩ = some (.int .i64 c) := (blk_cell ht.2.1 2).trans rfl
  have y3 : w.cell? ⟨q, 3, none⟩ = some (.int .i64 d) := (blk_cell ht.2.1 3).trans rfl
  have f0 := blk_frozen ht.2.1 0
  have f1 := blk_frozen ht.2.1 1
  have f2 := blk_frozen ht.2.1 2
  have f3 := blk_frozen ht.2.1 3
  have HT := Aside0.mk ht
  clear ht
  by_cases h1 : x < 0
  · have h2 : decide (x < 0) = true := decide_eq_true h1
    go_enter Try.func37, Try.ntmps37
    go_wp2
    go_ret2
    exact REnterPost.of (r' := (⟨a, b, c, d⟩, 0, 1)) (by unfold R.enter; rw [if_pos (show x < 0 by omega)]) rfl HT.out (Only.refl _ _)
  by_cases h3 : 1099511627776 < x
  · have h2 : decide (x < 0) = false := decide_eq_false h1
    have h4 : decide (1099511627776 < x) = true := decide_eq_true h3
    go_enter Try.func37, Try.ntmps37
    go_wp2
    go_ret2
    exact REnterPost.of (r' := (⟨a, b, c, d⟩, 0, 1)) (by unfold R.enter; rw [if_neg (show ¬ x < 0 by omega), if_pos (show _ < x by omega)]) rfl HT.out (Only.refl _ _)
  have h2 : decide (x < 0) = false := decide_eq_false h1
  have h4 : decide (1099511627776 < x) = false := decide_eq_false h3
  by_cases u0 : a < 0
  · have t0 : decide (a < 0) = true := decide_eq_true u0
    go_enter Try.func37, Try.ntmps37
    go_wp2
    refine wp_loop_rounds 5 ?_
    rw [rounds_succ]
    go_wp2
    go_ret2
    exact REnterPost.of (r' := (⟨x, b, c, d⟩, 0, 0)) (by unfold R.enter; rw [if_neg (show ¬ x < 0 by omega), if_neg (show ¬ 1099511627776 < x by omega), if_pos (show a < 0 by omega)]) rfl (HT.out.put 0 _ rfl) ((Only.refl q w).set _ _)
  have t0 : decide (a < 0) = false := decide_eq_false u0
  by_cases u1 : b < 0
  · have t1 : decide (b < 0) = true := decide_eq_true u1
    go_enter Try.func37, Try.ntmps37
    go_wp2
    refine wp_loop_rounds 5 ?_
    rw [rounds_succ]
    go_wp2
    rw [rounds_succ]
    go_wp2
    go_ret2
    exact REnterPost.of (r' := (⟨a, x, c, d⟩, 1, 0)) (by unfold R.enter; rw [if_neg (show ¬ x < 0 by omega), if_neg (show ¬ 1099511627776 < x by omega), if_neg (show ¬ a < 0 by omega), if_pos (show b < 0 by omega)]) rfl (HT.out.put 1 _ rfl) ((Only.refl q w).set _ _)
  have t1 : decide (b < 0) = false := decide_eq_false u1
  by_cases u2 : c < 0
  · have t2 : decide (c < 0) = true := decide_eq_true u2
    go_enter Try.func37, Try.ntmps37
    go_wp2
    refine wp_loop_rounds 5 ?_
    rw [rounds_succ]
    go_wp2
    rw [rounds_succ]
    go_wp2
    rw [rounds_succ]
    go_wp2
    go_ret2
    exact REnterPost.of (r' := (⟨a, b, x, d⟩, 2, 0)) (by unfold R.enter; rw [if_neg (show ¬ x < 0 by omega), if_neg (show ¬ 1099511627776 < x by omega), if_neg (show ¬ a < 0 by omega), if_neg (show ¬ b < 0 by omega), if_pos (show c < 0 by omega)]) rfl (HT.out.put 2 _ rfl) ((Only.refl q w).set _ _)
  have t2 : decide (c < 0) = false := decide_eq_false u2
  by_cases u3 : d < 0
  · have t3 : decide (d < 0) = true := decide_eq_true u3
    go_enter Try.func37, Try.ntmps37
    go_wp2
    refine wp_loop_rounds 5 ?_
    rw [rounds_succ]
    go_wp2
    rw [rounds_succ]
    go_wp2
    rw [rounds_succ]
    go_wp2
    rw [rounds_succ]
    go_wp2
    go_ret2
    exact REnterPost.of (r' := (⟨a, b, c, x⟩, 3, 0)) (by unfold R.enter; rw [if_neg (show ¬ x < 0 by omega), if_neg (show ¬ 1099511627776 < x by omega), if_neg (show ¬ a < 0 by omega), if_neg (show ¬ b < 0 by omega), if_neg (show ¬ c < 0 by omega), if_pos (show d < 0 by omega)]) rfl (HT.out.put 3 _ rfl) ((Only.refl q w).set _ _)
  have t3 : decide (d < 0) = false := decide_eq_false u3
  go_enter Try.func37, Try.ntmps37
  go_wp2
  refine wp_loop_rounds 5 ?_
  rw [rounds_succ]
  go_wp2
  rw [rounds_succ]
  go_wp2
  rw [rounds_succ]
  go_wp2
  rw [rounds_succ]
  go_wp2
  rw [rounds_succ]
  go_wp2
  go_ret2
  exact REnterPost.of (r' := (⟨a, b, c, d⟩, 0, 9)) (by unfold R.enter; rw [if_neg (show ¬ x < 0 by omega), if_neg (show ¬ 1099511627776 < x by omega), if_neg (show ¬ a < 0 by omega), if_neg (show ¬ b < 0 by omega), if_neg (show ¬ c < 0 by omega), if_neg (show ¬ d < 0 by omega)]) rfl HT.out (Only.refl _ _)

def RLeavePost (h q : Nat) (r : R × Int) (w : World) (e : Ending) (w' : World) : Prop := e = .returned (.int .i64 r.2) ∧ RT w' h q r.1 ∧ Only q w w'
theorem RLeavePost.of {h q : Nat} {r r' : R × Int} {w w' : World} {e : Ending} (hr : r = r') (he : e = .returned (.int .i64 r'.2)) (ht : RT w' h q r'.1) (ho : Only q w w') : RLeavePost h q r w e w' := by subst hr; exact ⟨he, ht, ho⟩
set_option maxHeartbeats 4000000 in
set_option maxRecDepth 1000000 in
theorem ref_leave (h q : Nat) (a b c d : Int) (x : Int) (w : World) (ht : RT w h q ⟨a, b, c, d⟩) : Calls Try.prog 38 #[.pointer (some ⟨h, 0, none⟩), .int .i64 x] w (RLeavePost h q (R.leave ⟨a, b, c, d⟩ x) w) := by
  have z : w.cell? ⟨h, 0, none⟩ = some (.slice (some ⟨q, 0, none⟩) 4 4) := (blk_cell ht.1 0).trans rfl
  have y0 : w.cell? ⟨q, 0, none⟩ = some (.int .i64 a) := (blk_cell ht.2.1 0).trans rfl
  have y1 : w.cell? ⟨q, 1, none⟩ = some (.int .i64 b) := (blk_cell ht.2.1 1).trans rfl
  have y2 : w.cell? ⟨q, 2, none⟩ = some (.int .i64 c) := (blk_cell ht.2.1 2).trans rfl
  have y3 : w.cell? ⟨q, 3, none⟩ = some (.int .i64 d) := (blk_cell ht.2.1 3).trans rfl
  have f0 := blk_frozen ht.2.1 0
  have f1 := blk_frozen ht.2.1 1
  have f2 := blk_frozen ht.2.1 2
  have f3 := blk_frozen ht.2.1 3
  have HT := Aside0.mk ht
  clear ht
  by_cases h1 : x < 0
  · have h2 : decide (x < 0) = true := decide_eq_true h1
    go_enter Try.func38, Try.ntmps38
    go_wp2
    go_ret
    exact RLeavePost.of (r' := (⟨a, b, c, d⟩, 1)) (by unfold R.leave; rw [if_pos (show x < 0 by omega)]) rfl HT.out (Only.refl _ _)
  by_cases h3 : 3 < x
  · have h2 : decide (x < 0) = false := decide_eq_false h1
    have h4 : decide (3 < x) = true := decide_eq_true h3
    go_enter Try.func38, Try.ntmps38
    go_wp2
    go_ret
    exact RLeavePost.of (r' := (⟨a, b, c, d⟩, 1)) (by unfold R.leave; rw [if_neg (show ¬ x < 0 by omega), if_pos (show _ < x by omega)]) rfl HT.out (Only.refl _ _)
  have hx : x = 0 ∨ x = 1 ∨ x = 2 ∨ x = 3 := by omega
  clear h1 h3
  rcases hx with rfl | rfl | rfl | rfl
  · by_cases u : a < 0
    · have t : decide (a < 0) = true := decide_eq_true u
      go_enter Try.func38, Try.ntmps38
      go_wp2
      go_ret
      exact RLeavePost.of (r' := (⟨a, b, c, d⟩, 7)) (by unfold R.leave R.at; simp [show a < 0 by omega]) rfl HT.out (Only.refl _ _)
    · have t : decide (a < 0) = false := decide_eq_false u
      go_enter Try.func38, Try.ntmps38
      go_wp2
      go_ret
      exact RLeavePost.of (r' := (⟨-1, b, c, d⟩, 0)) (by unfold R.leave R.at R.put; simp [show ¬ a < 0 by omega]) rfl (HT.out.put 0 _ rfl) ((Only.refl q w).set _ _)
  · by_cases u : b < 0
    · have t : decide (b < 0) = true := decide_eq_true u
      go_enter Try.func38, Try.ntmps38
      go_wp2
      go_ret
      exact RLeavePost.of (r' := (⟨a, b, c, d⟩, 7)) (by unfold R.leave R.at; simp [show b < 0 by omega]) rfl HT.out (Only.refl _ _)
    · have t : decide (b < 0) = false := decide_eq_false u
      go_enter Try.func38, Try.ntmps38
      go_wp2
      go_ret
      exact RLeavePost.of (r' := (⟨a, -1, c, d⟩, 0)) (by unfold R.leave R.at R.put; simp [show ¬ b < 0 by omega]) rfl (HT.out.put 1 _ rfl) ((Only.refl q w).set _ _)
  · by_cases u : c < 0
    · have t : decide (c < 0) = true := decide_eq_true u
      go_enter Try.func38, Try.ntmps38
      go_wp2
      go_ret
      exact RLeavePost.of (r' := (⟨a, b, c, d⟩, 7)) (by unfold R.leave R.at; simp [show c < 0 by omega]) rfl HT.out (Only.refl _ _)
    · have t : decide (c < 0) = false := decide_eq_false u
      go_enter Try.func38, Try.ntmps38
      go_wp2
      go_ret
      exact RLeavePost.of (r' := (⟨a, b, -1, d⟩, 0)) (by unfold R.leave R.at R.put; simp [show ¬ c < 0 by omega]) rfl (HT.out.put 2 _ rfl) ((Only.refl q w).set _ _)
  · by_cases u : d < 0
    · have t : decide (d < 0) = true := decide_eq_true u
      go_enter Try.func38, Try.ntmps38
      go_wp2
      go_ret
      exact RLeavePost.of (r' := (⟨a, b, c, d⟩, 7)) (by unfold R.leave R.at; simp [show d < 0 by omega]) rfl HT.out (Only.refl _ _)
    · have t : decide (d < 0) = false := decide_eq_false u
      go_enter Try.func38, Try.ntmps38
      go_wp2
      go_ret
      exact RLeavePost.of (r' := (⟨a, b, c, -1⟩, 0)) (by unfold R.leave R.at R.put; simp [show ¬ d < 0 by omega]) rfl (HT.out.put 3 _ rfl) ((Only.refl q w).set _ _)

def SayPost (v : Value) (w : World) (e : Ending) (w' : World) : Prop := e = .returned v ∧ ∃ n, w' = w.drewN n
theorem SayPost.of {v v' : Value} {w w' : World} {e : Ending} (hr : v = v') (he : e = .returned v') (ho : ∃ n, w' = w.drewN n) : SayPost v w e w' := by subst hr; exact ⟨he, ho⟩
set_option maxHeartbeats 4000000 in
set_option maxRecDepth 1000000 in
theorem ref_reads (h q : Nat) (a b c d : Int) (x : Int) (w : World) (ht : RT w h q ⟨a, b, c, d⟩) : Calls Try.prog 43 #[.pointer (some ⟨h, 0, none⟩), .int .i64 x] w (SayPost (.tuple #[.int .i64 (R.reads ⟨a, b, c, d⟩ x).1, .bool (R.reads ⟨a, b, c, d⟩ x).2]) w) := by
  have z : w.cell? ⟨h, 0, none⟩ = some (.slice (some ⟨q, 0, none⟩) 4 4) := (blk_cell ht.1 0).trans rfl
  have y0 : w.cell? ⟨q, 0, none⟩ = some (.int .i64 a) := (blk_cell ht.2.1 0).trans rfl
  have y1 : w.cell? ⟨q, 1, none⟩ = some (.int .i64 b) := (blk_cell ht.2.1 1).trans rfl
  have y2 : w.cell? ⟨q, 2, none⟩ = some (.int .i64 c) := (blk_cell ht.2.1 2).trans rfl
  have y3 : w.cell? ⟨q, 3, none⟩ = some (.int .i64 d) := (blk_cell ht.2.1 3).trans rfl
  clear ht
  by_cases h1 : x < 0
  · have h2 : decide (x < 0) = true := decide_eq_true h1
    go_enter Try.func43, Try.ntmps43
    go_wp2
    go_ret2
    exact SayPost.of (v' := .tuple #[.int .i64 0, .bool false]) (by unfold R.reads; rw [if_pos (show x < 0 by omega)]) rfl ⟨0, rfl⟩
  by_cases h3 : 3 < x
  · have h2 : decide (x < 0) = false := decide_eq_false h1
    have h4 : decide (3 < x) = true := decide_eq_true h3
    go_enter Try.func43, Try.ntmps43
    go_wp2
    go_ret2
    exact SayPost.of (v' := .tuple #[.int .i64 0, .bool false]) (by unfold R.reads; rw [if_neg (show ¬ x < 0 by omega), if_pos (show _ < x by omega)]) rfl ⟨0, rfl⟩
  have hx : x = 0 ∨ x = 1 ∨ x = 2 ∨ x = 3 := by omega
  clear h1 h3
  rcases hx with rfl | rfl | rfl | rfl
  · by_cases u : a < 0
    · have t : decide (a < 0) = true := decide_eq_true u
      go_enter Try.func43, Try.ntmps43
      go_wp2
      go_ret2
      exact SayPost.of (v' := .tuple #[.int .i64 0, .bool false]) (by unfold R.reads R.at; simp [show a < 0 by omega]) rfl ⟨0, rfl⟩
    · have t : decide (a < 0) = false := decide_eq_false u
      go_enter Try.func43, Try.ntmps43
      go_wp2
      go_ret2
      exact SayPost.of (v' := .tuple #[.int .i64 a, .bool true]) (by unfold R.reads R.at; simp [show ¬ a < 0 by omega]) rfl ⟨0, rfl⟩
  · by_cases u : b < 0
    · have t : decide (b < 0) = true := decide_eq_true u
      go_enter Try.func43, Try.ntmps43
      go_wp2
      go_ret2
      exact SayPost.of (v' := .tuple #[.int .i64 0, .bool false]) (by unfold R.reads R.at; simp [show b < 0 by omega]) rfl ⟨0, rfl⟩
    · have t : decide (b < 0) = false := decide_eq_false u
      go_enter Try.func43, Try.ntmps43
      go_wp2
      go_ret2
      exact SayPost.of (v' := .tuple #[.int .i64 b, .bool true]) (by unfold R.reads R.at; simp [show ¬ b < 0 by omega]) rfl ⟨0, rfl⟩
  · by_cases u : c < 0
    · have t : decide (c < 0) = true := decide_eq_true u
      go_enter Try.func43, Try.ntmps43
      go_wp2
      go_ret2
      exact SayPost.of (v' := .tuple #[.int .i64 0, .bool false]) (by unfold R.reads R.at; simp [show c < 0 by omega]) rfl ⟨0, rfl⟩
    · have t : decide (c < 0) = false := decide_eq_false u
      go_enter Try.func43, Try.ntmps43
      go_wp2
      go_ret2
      exact SayPost.of (v' := .tuple #[.int .i64 c, .bool true]) (by unfold R.reads R.at; simp [show ¬ c < 0 by omega]) rfl ⟨0, rfl⟩
  · by_cases u : d < 0
    · have t : decide (d < 0) = true := decide_eq_true u
      go_enter Try.func43, Try.ntmps43
      go_wp2
      go_ret2
      exact SayPost.of (v' := .tuple #[.int .i64 0, .bool false]) (by unfold R.reads R.at; simp [show d < 0 by omega]) rfl ⟨0, rfl⟩
    · have t : decide (d < 0) = false := decide_eq_false u
      go_enter Try.func43, Try.ntmps43
      go_wp2
      go_ret2
      exact SayPost.of (v' := .tuple #[.int .i64 d, .bool true]) (by unfold R.reads R.at; simp [show ¬ d < 0 by omega]) rfl ⟨0, rfl⟩

/-! ### the least of them, round by round -/
def R.nth (r : R) (i : Nat) : Int := if i = 0 then r.a else if i = 1 then r.b else if i = 2 then r.c else r.d
def R.low (r : R) : Nat → Int → Int
  | 0, n => n
  | k + 1, n => lowR (r.nth k) (r.low k n)
theorem R.low4 (r : R) (n : Int) : r.low 4 n = r.oldest n := rfl
def R.tm (r : R) (x : Int) : Nat → Int
  | 0 => 0
  | k + 1 => r.tm x k + is1 (r.nth k) x
theorem R.tm4 (r : R) (x : Int) : r.tm x 4 = r.times x := by
  show 0 + is1 r.a x + is1 r.b x + is1 r.c x + is1 r.d x = _
  unfold R.times
  omega
theorem R.tm_le (r : R) (x : Int) : ∀ k, 0 ≤ r.tm x k ∧ r.tm x k ≤ k
  | 0 => ⟨by show (0 : Int) ≤ 0; omega, by show (0 : Int) ≤ 0; omega⟩
  | k + 1 => by
    have := R.tm_le r x k
    show 0 ≤ r.tm x k + is1 (r.nth k) x ∧ r.tm x k + is1 (r.nth k) x ≤ ((k + 1 : Nat) : Int)
    unfold is1
    split <;> omega
theorem RT.nth {w : World} {h q : Nat} {r : R} (ht : RT w h q r) (i : Nat) (hi : i < 4) : w.cell? ⟨q, i, none⟩ = some (.int .i64 (r.nth i)) := by
  match i, hi with
  | 0, _ => exact (blk_cell ht.2.1 0).trans rfl
  | 1, _ => exact (blk_cell ht.2.1 1).trans rfl
  | 2, _ => exact (blk_cell ht.2.1 2).trans rfl
  | 3, _ => exact (blk_cell ht.2.1 3).trans rfl
set_option maxHeartbeats 4000000 in
set_option maxRecDepth 1000000 in
theorem ref_oldest (h q : Nat) (r : R) (x : Int) (w : World) (ht : RT w h q r) : Calls Try.prog 41 #[.pointer (some ⟨h, 0, none⟩), .int .i64 x] w (SayPost (.int .i64 (r.oldest x)) w) := by
  have z : w.cell? ⟨h, 0, none⟩ = some (.slice (some ⟨q, 0, none⟩) 4 4) := (blk_cell ht.1 0).trans rfl
  have HT := Aside0.mk ht
  clear ht
  go_enter Try.func41, Try.ntmps41
  go_wp2
  go_loopg [1, 5] 4 (fun kx v1 v5 wr => ∃ i : Nat, v5 = .int .i64 i ∧ v1 = .int .i64 (r.low i x) ∧ i ≤ 4 ∧ 4 - i ≤ kx ∧ wr = w)
  case atStart => exact ⟨0, rfl, rfl, by omega, by omega, rfl⟩
  case round =>
    obtain ⟨i, rfl, rfl, h4, hk, rfl⟩ := hrel
    by_cases hi : i < 4
    · have hi' : (i : Int) < 4 := by omega
      have hc := HT.out.nth i hi
      have e1 : r.low (i + 1) x = lowR (r.nth i) (r.low i x) := rfl
      have E1 := Aside0.mk e1
      clear e1
      generalize r.nth i = y at hc E1
      generalize r.low i x = n at E1
      by_cases u : 0 ≤ y
      · have t : decide ((0 : Int) ≤ y) = true := decide_eq_true u
        by_cases u2 : y < n
        · have t2 : decide (y < n) = true := decide_eq_true u2
          go_wp2
          go_roundg (4 - (i + 1))
          case measure => omega
          case rel => exact ⟨i + 1, rfl, by rw [E1.out]; unfold lowR; rw [if_pos u, if_pos u2], by omega, by omega, rfl⟩
        · have t2 : decide (y < n) = false := decide_eq_false u2
          go_wp2
          go_roundg (4 - (i + 1))
          case measure => omega
          case rel => exact ⟨i + 1, rfl, by rw [E1.out]; unfold lowR; rw [if_pos u, if_neg (show ¬ y < n by omega)], by omega, by omega, rfl⟩
      · have t : decide ((0 : Int) ≤ y) = false := decide_eq_false u
        go_wp2
        go_roundg (4 - (i + 1))
        case measure => omega
        case rel => exact ⟨i + 1, rfl, by rw [E1.out]; unfold lowR; rw [if_neg (show ¬ 0 ≤ y by omega)], by omega, by omega, rfl⟩
    · have hi' : ¬ (i : Int) < 4 := by omega
      obtain rfl : i = 4 := by omega
      have hl := Aside0.mk (R.low4 r x)
      generalize r.low 4 x = n at hl
      go_wp2
      go_ret
      exact SayPost.of (v' := .int .i64 n) (by rw [hl.out]) rfl ⟨0, rfl⟩
set_option maxHeartbeats 4000000 in
set_option maxRecDepth 1000000 in
theorem ref_times (h q : Nat) (r : R) (x : Int) (w : World) (ht : RT w h q r) : Calls Try.prog 45 #[.pointer (some ⟨h, 0, none⟩), .int .i64 x] w (SayPost (.int .i64 (r.times x)) w) := by
  have z : w.cell? ⟨h, 0, none⟩ = some (.slice (some ⟨q, 0, none⟩) 4 4) := (blk_cell ht.1 0).trans rfl
  have HT := Aside0.mk ht
  clear ht
  go_enter Try.func45, Try.ntmps45
  go_wp2
  go_loopg [5, 6] 4 (fun kx v5 v6 wr => ∃ i : Nat, v6 = .int .i64 i ∧ v5 = .int .i64 (r.tm x i) ∧ i ≤ 4 ∧ 4 - i ≤ kx ∧ wr = w)
  case atStart => exact ⟨0, rfl, rfl, by omega, by omega, rfl⟩
  case round =>
    obtain ⟨i, rfl, rfl, h4, hk, rfl⟩ := hrel
    by_cases hi : i < 4
    · have hi' : (i : Int) < 4 := by omega
      have hc := HT.out.nth i hi
      have e1 : r.tm x (i + 1) = r.tm x i + is1 (r.nth i) x := rfl
      obtain ⟨b1, b2⟩ := R.tm_le r x i
      have E1 := Aside0.mk e1
      clear e1
      generalize r.nth i = y at hc E1
      generalize r.tm x i = n at E1 b1 b2
      by_cases u : y = x
      · have t : (y == x) = true := beq_iff_eq.mpr u
        have U := Aside0.mk u
        clear u
        go_wp2
        go_roundg (4 - (i + 1))
        case measure => omega
        case rel => exact ⟨i + 1, rfl, by rw [E1.out]; unfold is1; rw [if_pos U.out], by omega, by omega, rfl⟩
      · have t : (y == x) = false := beq_eq_false_iff_ne.mpr u
        go_wp2
        go_roundg (4 - (i + 1))
        case measure => omega
        case rel => exact ⟨i + 1, rfl, by rw [E1.out]; unfold is1; rw [if_neg u, Int.add_zero], by omega, by omega, rfl⟩
    · have hi' : ¬ (i : Int) < 4 := by omega
      obtain rfl : i = 4 := by omega
      have hl := Aside0.mk (R.tm4 r x)
      generalize r.tm x 4 = n at hl
      go_wp2
      go_ret
      exact SayPost.of (v' := .int .i64 n) (by rw [hl.out]) rfl ⟨0, rfl⟩
theorem R.times_le (r : R) (x : Int) : 0 ≤ r.times x ∧ r.times x ≤ 4 := by rw [← R.tm4]; exact R.tm_le r x 4
set_option maxHeartbeats 4000000 in
set_option maxRecDepth 1000000 in
theorem ref_count (h q : Nat) (r : R) (w : World) (ht : RT w h q r) : Calls Try.prog 40 #[.pointer (some ⟨h, 0, none⟩)] w (SayPost (.int .i64 (4 - r.times (-1))) w) := by
  have HT := Aside0.mk ht
  clear ht
  have TM := Aside0.mk (fun w (ht : RT w h q r) => ref_times h q r (-1) w ht)
  obtain ⟨b1, b2⟩ := R.times_le r (-1)
  generalize r.times (-1) = n at b1 b2 TM
  go_enter Try.func40, Try.ntmps40
  go_wp2_with fail
  refine (TM.out _ HT.out).mono ?_
  rintro e w1 ⟨rfl, k, rfl⟩
  go_wp2_with fail
  go_ret
  exact SayPost.of (v' := .int .i64 (4 - n)) rfl rfl ⟨k, rfl⟩
def RNewPost (w : World) (e : Ending) (w' : World) : Prop := ∃ h q, e = .returned (.pointer (some ⟨h, 0, none⟩)) ∧ w.heap.size ≤ h ∧ w.heap.size ≤ q ∧ RT w' h q R.free ∧ Below w.heap.size w w'
theorem ref_new (w : World) : Calls Try.prog 36 #[] w (RNewPost w) := by
  go_enter Try.func36, Try.ntmps36
  go_wp2
  go_ret
  refine ⟨w.heap.size + 1, w.heap.size, rfl, by omega, Nat.le_refl _, ⟨?_, ?_, by omega⟩, below_alloc (below_alloc (Below.refl _ _) _) _⟩
  · have e : (w.alloc (.cells #[.int .i64 (-1), .int .i64 (-1), .int .i64 (-1), .int .i64 (-1)] 3)).heap.size = w.heap.size + 1 := by simp
    rw [← e]
    exact blk_new _ _
  · rw [Below.heap_alloc _ _ _ (by simp)]
    exact blk_new _ _
end Go.Proofs.Ytjbkkmgkckopdaa.Rd
