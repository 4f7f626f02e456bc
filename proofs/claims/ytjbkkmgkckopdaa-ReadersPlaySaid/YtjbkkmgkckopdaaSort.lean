import Derived.Test.YtjbkkmgkckopdaaProg
import Derived.Below
import Derived.WalkKit
import Derived.ProofKit
import Derived.KernelRfl
import Derived.Deep.LoopGhost
import Derived.Deep.Draws
import Derived.Deep.QuietTactic
import Derived.BigQuiet
import Derived.BigRegion
import Derived.LoopN
import Derived.Test.YtjbkkmgkckopdaaWWords
namespace Go.Proofs.Ytjbkkmgkckopdaa.Rd
open Go.RowKit Go.Proofs.YtjbkkmgkckopdaaW.PrintWords
set_option linter.unusedVariables false
set_option linter.unusedSimpArgs false

/-- Nothing but block g has turned. -/
structure Only (g : Nat) (w w' : World) : Prop where
  os : w'.os = w.os
  tape : w'.tape = w.tape
  output : w'.output = w.output
  size : w.heap.size ≤ w'.heap.size
  block : ∀ k, k < w.heap.size → k ≠ g → w'.heap[k]? = w.heap[k]?
theorem Only.refl (g : Nat) (w : World) : Only g w w := ⟨rfl, rfl, rfl, Nat.le_refl _, fun _ _ _ => rfl⟩
theorem Only.drewN {g : Nat} {w w' : World} (h : Only g w w') (n : Nat) : Only g w (w'.drewN n) := ⟨h.os, h.tape, h.output, h.size, h.block⟩
theorem Only.drew {g : Nat} {w w' : World} (h : Only g w w') : Only g w w'.drew := ⟨h.os, h.tape, h.output, h.size, h.block⟩
theorem Only.set {g : Nat} {w w' : World} (h : Only g w w') (j : Nat) (u : Value) : Only g w (w'.setCell ⟨g, j, none⟩ u) :=
  ⟨h.os, h.tape, h.output, by simpa [World.setCell] using h.size, fun k hk hne => (Below.heap_setCell w' ⟨g, j, none⟩ u k hne).trans (h.block k hk hne)⟩
theorem Only.trans {g : Nat} {w w1 w2 : World} (h : Only g w w1) (k : Only g w1 w2) : Only g w w2 :=
  ⟨k.os.trans h.os, k.tape.trans h.tape, k.output.trans h.output, Nat.le_trans h.size k.size, fun i hi hne => (k.block i (Nat.lt_of_lt_of_le hi h.size) hne).trans (h.block i hi hne)⟩

def I (x : Int) : Value := .int .i64 x
/-- The row of ints at block g: ys, then what is spare. -/
def IntRow (w : World) (g : Nat) (ys : List Int) (rest : List Value) : Prop := w.heap[g]? = some (.cells (ys.map (fun x => Value.int .i64 x) ++ rest).toArray 3 (0, 0))
theorem IntRow.cell {w : World} {g : Nat} {ys : List Int} {rest : List Value} (h : IntRow w g ys rest) (j : Nat) (hj : j < ys.length) : w.cell? ⟨g, j, none⟩ = some (.int .i64 ys[j]) := by
  rw [blk_cell h j]
  simp [List.getElem?_append, hj]
theorem IntRow.frozen {w : World} {g : Nat} {ys : List Int} {rest : List Value} (h : IntRow w g ys rest) (j : Nat) : w.frozen? ⟨g, j, none⟩ = false := blk_frozen h j
theorem IntRow.set {w : World} {g : Nat} {ys : List Int} {rest : List Value} (h : IntRow w g ys rest) (j : Nat) (hj : j < ys.length) (x : Int) : IntRow (w.setCell ⟨g, j, none⟩ (.int .i64 x)) g (ys.set j x) rest := by
  unfold IntRow
  rw [blk_set h j _]
  simp [List.set_append, hj, List.map_set]
theorem wrap_i64 (m : Nat) (h : m ≤ 100000) : IntKind.i64.wrap (m : Int) = (m : Int) := by
  rw [IntKind.wrap_i64]; omega
theorem less_calls (a b : Int) (w : World) : Calls Try.prog 151 #[.int .i64 a, .int .i64 b] w fun e w' => e = .returned (.bool (decide (a < b))) ∧ w' = w := by
  by_cases h : a < b
  · go_enter Try.func151, Try.ntmps151
    go_wp2
    go_ret
    exact ⟨by simp [h], rfl⟩
  · go_enter Try.func151, Try.ntmps151
    go_wp2
    go_ret
    exact ⟨by simp [h], rfl⟩
def SortedTo (ys : List Int) (i : Nat) : Prop := ∀ a b, a < b → b < i → ys.getD a 0 ≤ ys.getD b 0
def Inv2 (ys : List Int) (i j : Nat) : Prop := ∀ a b, a < b → b ≤ i → b ≠ j → ys.getD a 0 ≤ ys.getD b 0
theorem inv2_start {ys : List Int} {i : Nat} (h : SortedTo ys i) : Inv2 ys i i := fun a b h1 h2 h3 => h a b h1 (by omega)
theorem inv2_zero {ys : List Int} {i : Nat} (h : Inv2 ys i 0) : SortedTo ys (i + 1) := fun a b h1 h2 => h a b h1 (by omega) (by omega)
theorem inv2_stop {ys : List Int} {i m : Nat} (h : Inv2 ys i (m + 1)) (hm : m + 1 ≤ i) (hle : ys.getD m 0 ≤ ys.getD (m + 1) 0) : SortedTo ys (i + 1) := fun a b h1 h2 => by
  by_cases e : b = m + 1
  · subst e
    by_cases e2 : a = m
    · subst e2; exact hle
    · exact Int.le_trans (h a m (by omega) (by omega) (by omega)) hle
  · exact h a b h1 (by omega) e
def swap (ys : List Int) (m : Nat) : List Int := (ys.set (m + 1) (ys.getD m 0)).set m (ys.getD (m + 1) 0)
theorem swap_getD (ys : List Int) (m : Nat) (hm : m + 1 < ys.length) (a : Nat) : (swap ys m).getD a 0 = if a = m then ys.getD (m + 1) 0 else if a = m + 1 then ys.getD m 0 else ys.getD a 0 := by
  unfold swap
  simp only [List.getD_eq_getElem?_getD, List.getElem?_set, List.length_set]
  by_cases h1 : a = m
  · subst h1
    have h3 : a < ys.length := by omega
    simp [h3]
  · by_cases h2 : a = m + 1
    · subst h2
      have h3 : m + 1 < ys.length := by omega
      simp [h3]
    · rw [if_neg (fun h => h1 h.symm), if_neg (fun h => h2 h.symm), if_neg h1, if_neg h2]
theorem inv2_swap {ys : List Int} {i m : Nat} (h : Inv2 ys i (m + 1)) (hm : m + 1 ≤ i) (hi : i < ys.length) (hlt : ys.getD (m + 1) 0 < ys.getD m 0) : Inv2 (swap ys m) i m := fun a b h1 h2 h3 => by
  rw [swap_getD ys m (by omega), swap_getD ys m (by omega)]
  by_cases b1 : b = m + 1
  · rw [if_neg h3, if_pos b1]
    by_cases a1 : a = m
    · rw [if_pos a1]; omega
    · rw [if_neg a1, if_neg (by omega)]; exact h a m (by omega) (by omega) (by omega)
  · rw [if_neg h3, if_neg b1]
    by_cases a1 : a = m
    · rw [if_pos a1]; exact h (m + 1) b (by omega) h2 b1
    · by_cases a2 : a = m + 1
      · rw [if_neg a1, if_pos a2]; exact h m b (by omega) h2 b1
      · rw [if_neg a1, if_neg a2]; exact h a b h1 h2 b1
theorem swap_len (ys : List Int) (m : Nat) : (swap ys m).length = ys.length := by simp [swap]
theorem swap_perm : ∀ (ys : List Int) (m : Nat), m + 1 < ys.length → (swap ys m).Perm ys
  | [], m, h => by simp at h
  | [x], m, h => by simp at h
  | x :: y :: r, 0, h => List.Perm.swap _ _ _
  | x :: y :: r, m + 1, h => List.Perm.cons x (swap_perm (y :: r) m (by simpa using h))

set_option maxHeartbeats 4000000 in
set_option maxRecDepth 1000000 in
theorem isort_calls (g cap n : Nat) (xs : List Int) (rest : List Value) (w : World) (hr : IntRow w g xs rest) (hn : xs.length = n) (hn2 : n ≤ 1000) :
    Calls Try.prog 145 #[.slice (some ⟨g, 0, none⟩) n cap, .int .i64 0, .int .i64 n] w fun e w' => e = .returned (.tuple #[]) ∧ ∃ ys : List Int, ys.Perm xs ∧ SortedTo ys n ∧ IntRow w' g ys rest ∧ Only g w w' := by
  go_enter Try.func145, Try.ntmps145
  go_wp2
  go_loopg [6] n (fun kx v6 wr => ∃ (i : Nat) (ys : List Int), v6 = .int .i64 i ∧ 1 ≤ i ∧ n - i ≤ kx ∧ i ≤ 1001 ∧ Only g w wr ∧ Aside0 (IntRow wr g ys rest) ∧ Aside0 (ys.Perm xs ∧ SortedTo ys i))
  case atStart => exact ⟨1, xs, rfl, Nat.le_refl _, by omega, by omega, Only.refl _ _, Aside0.mk hr, Aside0.mk ⟨List.Perm.refl _, fun a b h1 h2 => by omega⟩⟩
  case round =>
    obtain ⟨i, ys, rfl, h1i, hm, hi2, hO, HR, HI⟩ := hrel
    clear hr
    by_cases hi : i < n
    · have hi' : (i : Int) < (n : Int) := by omega
      go_wp2_with fail
      go_loopg [7] i (fun kx v7 wr => ∃ (j : Nat) (ys : List Int), v7 = .int .i64 j ∧ j ≤ i ∧ j ≤ kx ∧ Only g w wr ∧ Aside0 (IntRow wr g ys rest) ∧ Aside0 (ys.Perm xs ∧ Inv2 ys i j))
      case atStart => exact ⟨i, ys, rfl, Nat.le_refl _, Nat.le_refl _, hO, HR, Aside0.mk ⟨HI.out.1, inv2_start HI.out.2⟩⟩
      case round =>
        clear hO HR HI ys
        obtain ⟨j, ys, rfl, hji, hjk, hO, HR, HI⟩ := hrel
        cases j with
        | zero =>
          have hz : decide ((0 : Int) < ((0 : Nat) : Int)) = false := by decide
          have hz2 : decide ((0 : Int) < 0) = false := by decide
          go_wp2_with fail
          go_quiet (fail)
          go_wp2_with fail
          go_roundg (n - (i + 1))
          case measure => omega
          case rel => exact ⟨i + 1, ys, rfl, by omega, Nat.le_refl _, by omega, hO.drewN _, HR, Aside0.mk ⟨HI.out.1, inv2_zero HI.out.2⟩⟩
        | succ m =>
          have hlen : ys.length = n := by rw [HI.out.1.length_eq]; exact hn
          have hm1 : m + 1 < ys.length := by omega
          have z1 := HR.out.cell (m + 1) hm1
          have z0 := HR.out.cell m (by omega)
          have g1 : ys.getD (m + 1) 0 = ys[m + 1] := by rw [List.getD_eq_getElem?_getD, List.getElem?_eq_getElem hm1]; rfl
          have g0 : ys.getD m 0 = ys[m] := by rw [List.getD_eq_getElem?_getD, List.getElem?_eq_getElem (by omega)]; rfl
          have SP := Aside0.mk (fun h => inv2_swap HI.out.2 hji (by omega) h)
          have ST := Aside0.mk (fun h => inv2_stop HI.out.2 hji h)
          have sw : swap ys m = (ys.set (m + 1) (ys.getD m 0)).set m (ys.getD (m + 1) 0) := rfl
          rw [g1, g0] at sw SP ST
          have SW := Aside0.mk sw
          clear sw
          generalize ys[m + 1] = y1 at z1 SP ST SW
          generalize ys[m]'(by omega) = y0 at z0 SP ST SW
          clear g1 g0
          have e0 : (0 : Int) < ((m + 1 : Nat) : Int) := by omega
          have e1 : decide ((0 : Int) < ((m + 1 : Nat) : Int)) = true := decide_eq_true e0
          have e2 : decide ((0 : Int) < (m : Int) + 1) = true := decide_eq_true (by omega)
          have e3 : (m : Int) + 1 < (n : Int) := by omega
          have e4 : (m : Int) < (n : Int) := by omega
          have e5 : (0 : Int) ≤ (m : Int) + 1 := by omega
          have ew : IntKind.i64.wrap (m : Int) = (m : Int) := wrap_i64 m (by omega)
          have em : ((m : Int) + 1 - 1) = (m : Int) := by omega
          by_cases hlt : y1 < y0
          · have hb : decide (y1 < y0) = true := decide_eq_true hlt
            go_wp2_with fail
            go_quiet (first | (go_at_call 151; refine Calls.quiet_of_same (less_calls y1 y0 _)))
            go_wp2_with fail
            generalize hq : wr.drewN _ = w5
            have HR5 : Aside0 (IntRow w5 g ys rest) := Aside0.mk (by rw [← hq]; exact HR.out)
            have HO5 : Aside0 (Only g w w5) := Aside0.mk (by rw [← hq]; exact hO.drewN _)
            have y1' : w5.cell? ⟨g, m + 1, none⟩ = some (.int .i64 y1) := by rw [← hq]; exact z1
            have y0' : w5.cell? ⟨g, m, none⟩ = some (.int .i64 y0) := by rw [← hq]; exact z0
            have f1 := HR5.out.frozen (m + 1)
            have f0 := HR5.out.frozen m
            clear hq z1 z0 HR hO
            go_region
            go_wp2_with fail
            go_roundg m
            case measure => omega
            case rel => exact ⟨m, swap ys m, rfl, by omega, Nat.le_refl _, ((HO5.out.set _ _).set _ _).drew, Aside0.mk (by rw [SW.out]; exact (HR5.out.set (m + 1) hm1 y0).set m (by simp; omega) y1), Aside0.mk ⟨(swap_perm ys m hm1).trans HI.out.1, SP.out hlt⟩⟩
          · have hb : decide (y1 < y0) = false := decide_eq_false hlt
            go_wp2_with fail
            go_quiet (first | (go_at_call 151; refine Calls.quiet_of_same (less_calls y1 y0 _)))
            go_wp2_with fail
            go_roundg (n - (i + 1))
            case measure => omega
            case rel => exact ⟨i + 1, ys, rfl, by omega, Nat.le_refl _, by omega, hO.drewN _, HR, Aside0.mk ⟨HI.out.1, ST.out (by omega)⟩⟩
    · have hi' : ¬ (i : Int) < (n : Int) := by omega
      go_wp2_with fail
      go_end0
      exact ⟨rfl, ys, HI.out.1, fun a b h1 h2 => HI.out.2 a b h1 (by omega), HR.out, hO⟩

set_option maxRecDepth 1000000 in
theorem len_calls (n : Nat) (h : n ≤ 4) (w : World) : Calls Try.prog 129 #[.int .u64 n] w fun e w' => ∃ x, e = .returned (.int .i64 x) ∧ w' = w := by
  match n, h with
  | 0, _ => go_enter Try.func129, Try.ntmps129; go_wp2; go_ret; exact ⟨_, rfl, rfl⟩
  | 1, _ => go_enter Try.func129, Try.ntmps129; go_wp2; go_ret; exact ⟨_, rfl, rfl⟩
  | 2, _ => go_enter Try.func129, Try.ntmps129; go_wp2; go_ret; exact ⟨_, rfl, rfl⟩
  | 3, _ => go_enter Try.func129, Try.ntmps129; go_wp2; go_ret; exact ⟨_, rfl, rfl⟩
  | 4, _ => go_enter Try.func129, Try.ntmps129; go_wp2; go_ret; exact ⟨_, rfl, rfl⟩

set_option maxHeartbeats 4000000 in
set_option maxRecDepth 1000000 in
theorem pdq_calls (g cap n : Nat) (lim : Int) (xs : List Int) (rest : List Value) (w : World) (hr : IntRow w g xs rest) (hn : xs.length = n) (hn2 : n ≤ 4) :
    Calls Try.prog 128 #[.slice (some ⟨g, 0, none⟩) n cap, .int .i64 0, .int .i64 n, .int .i64 lim] w fun e w' => e = .returned (.tuple #[]) ∧ ∃ ys : List Int, ys.Perm xs ∧ SortedTo ys n ∧ IntRow w' g ys rest ∧ Only g w w' := by
  have HI := Aside0.mk (isort_calls g cap n xs rest w hr hn (by omega))
  have h12 : (n : Int) ≤ 12 := by omega
  clear hr
  go_enter Try.func128, Try.ntmps128
  go_wp2_with fail
  refine wp_loop_rounds 1 ?_
  rw [rounds_succ]
  go_wp2_with fail
  refine HI.out.mono ?_
  rintro e w1 ⟨rfl, h⟩
  have H := Aside0.mk h
  clear h
  go_wp2_with fail
  first | go_end0 | refine bodyPost_ret (results_list (rs := []) rfl (by simp) .nil) rfl ?_
  exact ⟨rfl, H.out⟩

set_option maxHeartbeats 4000000 in
set_option maxRecDepth 1000000 in
theorem sort_calls (g cap n : Nat) (xs : List Int) (rest : List Value) (w : World) (hr : IntRow w g xs rest) (hn : xs.length = n) (hn2 : n ≤ 4) :
    Calls Try.prog 95 #[.slice (some ⟨g, 0, none⟩) n cap] w fun e w' => e = .returned (.tuple #[]) ∧ ∃ ys : List Int, ys.Perm xs ∧ SortedTo ys n ∧ IntRow w' g ys rest ∧ Only g w w' := by
  have HI := Aside0.mk (fun lim => pdq_calls g cap n lim xs rest w hr hn hn2)
  clear hr
  have hb : (n : Int) ≤ 4 := by omega
  go_enter Try.func95, Try.ntmps95
  go_wp2_with fail
  refine (len_calls n hn2 _).mono ?_
  rintro e w1 ⟨x, rfl, rfl⟩
  go_wp2_with fail
  refine (HI.out x).mono ?_
  rintro e w1 ⟨rfl, h⟩
  have H := Aside0.mk h
  clear h
  go_wp2_with fail
  first | go_end0 | refine bodyPost_ret (results_list (rs := []) rfl (by simp) .nil) rfl ?_
  exact ⟨rfl, H.out⟩
end Go.Proofs.Ytjbkkmgkckopdaa.Rd
