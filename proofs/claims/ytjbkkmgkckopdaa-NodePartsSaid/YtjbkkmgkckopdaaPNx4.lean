/- Walks of the Go functions that the node statements reach: each Go function answers what the Lean function beside it answers, wherever that one answers at all. Written by a program of ours. -/
import Derived.Test.YtjbkkmgkckopdaaPNx0
import Derived.Test.YtjbkkmgkckopdaaPNx3
namespace Go.Proofs.Ytjbkkmgkckopdaa.PN
open Go.RowKit Go.Proofs.YtjbkkmgkckopdaaW.PrintWords Go.Proofs.YtjbkkmgkckopdaaW.PrintLast Go.Proofs.YtjbkkmgkckopdaaW.PrintMore
attribute [local go_sem] max2_int min2_int max_two min_two max_three min_three max_four min_four   -- for this text's walks alone
set_option linter.unusedVariables false
set_option linter.unusedSimpArgs false

/-! ### rollbookref06_Cell: function 92 -/
def rollbookref06_Cell.j0 : Nat → Bool → ByteArray → ByteArray → Int → Int → Int → Option (Bool)
  | 0, _, _, _, _, _, _ => none
  | k + 1, x42, x179000, x179001, x179002, x179003, x179004 => if x42 = true then (some false) else (if x179002 = 0 then (if x179003 = 0 then (some (decide ((x179001.size : Int) ≤ 96))) else (if x179001.toList = ([] : List UInt8) then (if x179002 ≥ 1 then (if x179002 ≤ 511 then (if x179003 ≥ 97 then (some (decide (x179003 ≤ 4000))) else (some false)) else (some false)) else (some false)) else (some false))) else (if x179001.toList = ([] : List UInt8) then (if x179002 ≥ 1 then (if x179002 ≤ 511 then (if x179003 ≥ 97 then (some (decide (x179003 ≤ 4000))) else (some false)) else (some false)) else (some false)) else (some false)))
def rollbookref06_Cell.f (k : Nat) (a0 : Bool) (a1_0 : ByteArray) (a1_1 : ByteArray) (a1_2 : Int) (a1_3 : Int) (a1_4 : Int) : Option (Bool) := if (a1_0.size : Int) > 120 then (some false) else (if a0 = true then (if (a1_0.size : Int) = 0 then (rollbookref06_Cell.j0 k true a1_0 a1_1 a1_2 a1_3 a1_4) else (rollbookref06_Cell.j0 k (a1_4 != 0) a1_0 a1_1 a1_2 a1_3 a1_4)) else (if a1_4 ≥ 1 then (if a1_4 ≤ 511 then (if a1_1.toList = ([] : List UInt8) then (if a1_2 = 0 then (some (a1_3 == 0)) else (some false)) else (some false)) else (some false)) else (some false)))
theorem rollbookref06_Cell.mono_l : ∀ k, (∀ y0 y1 y2 y3 y4 y5, LeO (rollbookref06_Cell.j0 k y0 y1 y2 y3 y4 y5) (rollbookref06_Cell.j0 (k + 1) y0 y1 y2 y3 y4 y5))
  | 0 => fun _ _ _ _ _ _ r h => by simp [rollbookref06_Cell.j0] at h
  | k + 1 => by
    have ih0 := rollbookref06_Cell.mono_l k
    · intro y0 y1 y2 y3 y4 y5
      unfold rollbookref06_Cell.j0
      repeat' first
      | (with_reducible exact ih0 _ _ _ _ _ _)
      | (with_reducible exact LeO.refl _)
      | (with_reducible exact LeO.none _)
      | (with_reducible refine LeO.ite ?_ ?_)
      | (with_reducible refine LeO.bind ?_ (fun _ => ?_))
      | exact ih0 _ _ _ _ _ _
      | exact LeO.none _
      | refine LeO.ite ?_ ?_
      | refine LeO.bind ?_ (fun _ => ?_)
theorem rollbookref06_Cell.mono : ∀ a0 a1 a2 a3 a4 a5 k, LeO (rollbookref06_Cell.f k a0 a1 a2 a3 a4 a5) (rollbookref06_Cell.f (k + 1) a0 a1 a2 a3 a4 a5) := by
  intro a0 a1 a2 a3 a4 a5 k
  have ih0 := rollbookref06_Cell.mono_l k
  unfold rollbookref06_Cell.f
  repeat' first
      | (with_reducible exact ih0 _ _ _ _ _ _)
      | (with_reducible exact LeO.refl _)
      | (with_reducible exact LeO.none _)
      | (with_reducible refine LeO.ite ?_ ?_)
      | (with_reducible refine LeO.bind ?_ (fun _ => ?_))
      | exact ih0 _ _ _ _ _ _
      | exact LeO.none _
      | refine LeO.ite ?_ ?_
      | refine LeO.bind ?_ (fun _ => ?_)
set_option maxHeartbeats 8000000 in
set_option maxRecDepth 100000 in
theorem rollbookref06_Cell.calls (k : Nat) (a0 : Bool) (a1_0 : ByteArray) (a1_1 : ByteArray) (a1_2 : Int) (a1_3 : Int) (a1_4 : Int) (r : Bool) (w : World) (h : rollbookref06_Cell.f k a0 a1_0 a1_1 a1_2 a1_3 a1_4 = some r) :
    Calls Try.prog 92 #[.bool a0, .agg #[.string a1_0, .string a1_1, .int .i64 a1_2, .int .i64 a1_3, .int .i64 a1_4]] w fun e w' => e = .returned (.bool r) ∧ Below w.heap.size w w' := by
  have hu35 := Try.underlying35
  have HB := Aside0.mk (Below.refl w.heap.size w)
  have H : (if (a1_0.size : Int) > 120 then (some false) else (if a0 = true then (if (a1_0.size : Int) = 0 then (rollbookref06_Cell.j0 k true a1_0 a1_1 a1_2 a1_3 a1_4) else (rollbookref06_Cell.j0 k (a1_4 != 0) a1_0 a1_1 a1_2 a1_3 a1_4)) else (if a1_4 ≥ 1 then (if a1_4 ≤ 511 then (if a1_1.toList = ([] : List UInt8) then (if a1_2 = 0 then (some (a1_3 == 0)) else (some false)) else (some false)) else (some false)) else (some false)))) = some r := h
  clear h
  by_cases c3 : (a1_0.size : Int) > 120
  · rw [if_pos c3] at H
    have c3b0 : decide (120 < (a1_0.size : Int)) = true := decide_eq_true c3
    have c3b1 : decide (120 < a1_0.size) = true := decide_eq_true (by omega)
    clear c3
    obtain rfl := Option.some.inj H
    go_enter Try.func92, Try.ntmps92
    go_wp2_with (first | ((with_reducible refine gate_dst (N := 3) rfl ?_); refine box_event ?hg (N := 3) ?hd (cs := #[.string a1_0, .string a1_1, .int .i64 a1_2, .int .i64 a1_3, .int .i64 a1_4]) (t := 35) ?hr ?_; (case hd => rfl); (case hg => rfl); (case hr => first | (go_simp; done) | (go_simp; rfl)); intro gb178 hg w4 hbox hb; have n0_ := Aside0.mk (below_step (by repeat (first | (with_reducible first | exact HB.out | apply below_alloc | apply pw_below_drewN | apply below_drew1) | exact HB.out)) hb); have n1_ := Aside0.mk (hbox); have n2_ := Aside0.mk ((by rw [hg]; exact (below_size (by repeat (first | (with_reducible first | exact HB.out | apply below_alloc | apply pw_below_drewN | apply below_drew1) | exact HB.out))) : w.heap.size ≤ gb178)); have n3_ := Aside0.mk ((by rw [hg]; exact (below_size (by repeat (first | (with_reducible first | exact HB.out | apply below_alloc | apply pw_below_drewN | apply below_drew1) | exact HB.out))) : w.heap.size ≤ gb178)); clear HB; have HB := n0_; have BK178 := n1_; have GW178 := n2_; have GE178 := n3_; clear n0_ n1_ n2_ n3_; clear hb hbox hg; have hcz5_0 : w4.cell? ⟨gb178, 0, none⟩ = some (.string a1_0) := (blk_cell BK178.out 0).trans rfl; have hcz5_1 : w4.cell? ⟨gb178, 1, none⟩ = some (.string a1_1) := (blk_cell BK178.out 1).trans rfl; have hcz5_2 : w4.cell? ⟨gb178, 2, none⟩ = some (.int .i64 a1_2) := (blk_cell BK178.out 2).trans rfl; have hcz5_3 : w4.cell? ⟨gb178, 3, none⟩ = some (.int .i64 a1_3) := (blk_cell BK178.out 3).trans rfl; have hcz5_4 : w4.cell? ⟨gb178, 4, none⟩ = some (.int .i64 a1_4) := (blk_cell BK178.out 4).trans rfl; have hfz5_0 := blk_frozen BK178.out 0; have hfz5_1 := blk_frozen BK178.out 1; have hfz5_2 := blk_frozen BK178.out 2; have hfz5_3 := blk_frozen BK178.out 3; have hfz5_4 := blk_frozen BK178.out 4))
    go_ret
    exact ⟨by first | rfl | (simp [errW_none, errW_some] <;> rfl) | (simp [*, errW_none, errW_some] <;> rfl), by repeat (first | (with_reducible first | exact HB.out | apply below_alloc | apply pw_below_drewN | apply below_drew1 | refine below_set ?_ GE178.out) | exact HB.out)⟩
  · rw [if_neg c3] at H
    have c3b0 : decide (120 < (a1_0.size : Int)) = false := decide_eq_false c3
    have c3b1 : decide (120 < a1_0.size) = false := decide_eq_false (by omega)
    clear c3
    by_cases c6 : a0 = true
    · subst c6
      have H1 : (if (a1_0.size : Int) = 0 then (rollbookref06_Cell.j0 k true a1_0 a1_1 a1_2 a1_3 a1_4) else (rollbookref06_Cell.j0 k (a1_4 != 0) a1_0 a1_1 a1_2 a1_3 a1_4)) = some r := by rw [if_pos rfl] at H; exact H
      clear H
      have H := H1
      clear H1
      have HC7 := Aside0.mk H
      clear H
      go_enter Try.func92, Try.ntmps92
      go_upto_region 5 with (first | ((with_reducible refine gate_dst (N := 3) rfl ?_); refine box_event ?hg (N := 3) ?hd (cs := #[.string a1_0, .string a1_1, .int .i64 a1_2, .int .i64 a1_3, .int .i64 a1_4]) (t := 35) ?hr ?_; (case hd => rfl); (case hg => rfl); (case hr => first | (go_simp; done) | (go_simp; rfl)); intro gb178 hg w8 hbox hb; have n0_ := Aside0.mk (below_step (by repeat (first | (with_reducible first | exact HB.out | apply below_alloc | apply pw_below_drewN | apply below_drew1) | exact HB.out)) hb); have n1_ := Aside0.mk (hbox); have n2_ := Aside0.mk ((by rw [hg]; exact (below_size (by repeat (first | (with_reducible first | exact HB.out | apply below_alloc | apply pw_below_drewN | apply below_drew1) | exact HB.out))) : w.heap.size ≤ gb178)); have n3_ := Aside0.mk ((by rw [hg]; exact (below_size (by repeat (first | (with_reducible first | exact HB.out | apply below_alloc | apply pw_below_drewN | apply below_drew1) | exact HB.out))) : w.heap.size ≤ gb178)); clear HB; have HB := n0_; have BK178 := n1_; have GW178 := n2_; have GE178 := n3_; clear n0_ n1_ n2_ n3_; clear hb hbox hg; have hcz9_0 : w8.cell? ⟨gb178, 0, none⟩ = some (.string a1_0) := (blk_cell BK178.out 0).trans rfl; have hcz9_1 : w8.cell? ⟨gb178, 1, none⟩ = some (.string a1_1) := (blk_cell BK178.out 1).trans rfl; have hcz9_2 : w8.cell? ⟨gb178, 2, none⟩ = some (.int .i64 a1_2) := (blk_cell BK178.out 2).trans rfl; have hcz9_3 : w8.cell? ⟨gb178, 3, none⟩ = some (.int .i64 a1_3) := (blk_cell BK178.out 3).trans rfl; have hcz9_4 : w8.cell? ⟨gb178, 4, none⟩ = some (.int .i64 a1_4) := (blk_cell BK178.out 4).trans rfl; have hfz9_0 := blk_frozen BK178.out 0; have hfz9_1 := blk_frozen BK178.out 1; have hfz9_2 := blk_frozen BK178.out 2; have hfz9_3 := blk_frozen BK178.out 3; have hfz9_4 := blk_frozen BK178.out 4))
      (try simp only [Act.put, List.setIfInBounds_toArray, List.set_cons_zero, List.set_cons_succ])
      go_cut [42] (fun v42 wc => ∃ (kq : Nat) (x42_6 : Bool), v42 = .bool x42_6 ∧ Aside0 (rollbookref06_Cell.j0 kq x42_6 a1_0 a1_1 a1_2 a1_3 a1_4 = some r) ∧ Aside0 (kq ≤ k) ∧ Aside0 (wc.heap[gb178]? = some (.cells #[.string a1_0, .string a1_1, .int .i64 a1_2, .int .i64 a1_3, .int .i64 a1_4] 35 (0, 0))) ∧ Aside0 (Below w.heap.size w wc))
      case first =>
        have H := HC7.out
        clear HC7
        by_cases c10 : (a1_0.size : Int) = 0
        · rw [if_pos c10] at H
          have c10b0 : ((a1_0.size : Int) == 0) = true := beq_iff_eq.mpr c10
          have c10b1 : ((a1_0.size : Int) != 0) = false := bne_eq_false_iff_eq.mpr c10
          clear c10
          (first | rw [c10b0] | (simp only [i64_w, i32_w]; rw [c10b0]) | skip)
          have H' := Aside0.mk H
          clear H
          have hcz11_0 : w8.cell? ⟨gb178, 0, none⟩ = some (.string a1_0) := (blk_cell BK178.out 0).trans rfl
          have hcz11_1 : w8.cell? ⟨gb178, 1, none⟩ = some (.string a1_1) := (blk_cell BK178.out 1).trans rfl
          have hcz11_2 : w8.cell? ⟨gb178, 2, none⟩ = some (.int .i64 a1_2) := (blk_cell BK178.out 2).trans rfl
          have hcz11_3 : w8.cell? ⟨gb178, 3, none⟩ = some (.int .i64 a1_3) := (blk_cell BK178.out 3).trans rfl
          have hcz11_4 : w8.cell? ⟨gb178, 4, none⟩ = some (.int .i64 a1_4) := (blk_cell BK178.out 4).trans rfl
          have hfz11_0 := blk_frozen BK178.out 0
          have hfz11_1 := blk_frozen BK178.out 1
          have hfz11_2 := blk_frozen BK178.out 2
          have hfz11_3 := blk_frozen BK178.out 3
          have hfz11_4 := blk_frozen BK178.out 4
          go_wp2
          go_meet
          case rel => exact ⟨_, (true), (by first | rfl | (simp; done) | (simp [*]; done)), H', ⟨by first | omega | exact Nat.le_refl _⟩, ⟨by (with_reducible repeat (first | refine blk_drewN ?_ _ | refine blk_drew ?_ | refine blk_alloc ?_ _)); exact BK178.out⟩, ⟨by repeat (first | (with_reducible first | exact HB.out | apply below_alloc | apply pw_below_drewN | apply below_drew1 | refine below_set ?_ GE178.out) | exact HB.out)⟩⟩
        · rw [if_neg c10] at H
          have c10b0 : ((a1_0.size : Int) == 0) = false := beq_eq_false_iff_ne.mpr c10
          have c10b1 : ((a1_0.size : Int) != 0) = true := bne_iff_ne.mpr c10
          (first | rw [c10b0] | (simp only [i64_w, i32_w]; rw [c10b0]) | skip)
          have H' := Aside0.mk H
          clear H
          have hcz12_0 : w8.cell? ⟨gb178, 0, none⟩ = some (.string a1_0) := (blk_cell BK178.out 0).trans rfl
          have hcz12_1 : w8.cell? ⟨gb178, 1, none⟩ = some (.string a1_1) := (blk_cell BK178.out 1).trans rfl
          have hcz12_2 : w8.cell? ⟨gb178, 2, none⟩ = some (.int .i64 a1_2) := (blk_cell BK178.out 2).trans rfl
          have hcz12_3 : w8.cell? ⟨gb178, 3, none⟩ = some (.int .i64 a1_3) := (blk_cell BK178.out 3).trans rfl
          have hcz12_4 : w8.cell? ⟨gb178, 4, none⟩ = some (.int .i64 a1_4) := (blk_cell BK178.out 4).trans rfl
          have hfz12_0 := blk_frozen BK178.out 0
          have hfz12_1 := blk_frozen BK178.out 1
          have hfz12_2 := blk_frozen BK178.out 2
          have hfz12_3 := blk_frozen BK178.out 3
          have hfz12_4 := blk_frozen BK178.out 4
          go_wp2
          go_meet
          case rel => exact ⟨_, ((a1_4 != 0)), (by first | rfl | (simp; done) | (simp [*]; done)), H', ⟨by first | omega | exact Nat.le_refl _⟩, ⟨by (with_reducible repeat (first | refine blk_drewN ?_ _ | refine blk_drew ?_ | refine blk_alloc ?_ _)); exact BK178.out⟩, ⟨by repeat (first | (with_reducible first | exact HB.out | apply below_alloc | apply pw_below_drewN | apply below_drew1 | refine below_set ?_ GE178.out) | exact HB.out)⟩⟩
      case rest =>
        clear HC7
        try clear c1
        try clear p2
        try clear c3
        try clear c3b0
        try clear c3b1
        try clear c6
        try clear c9
        try clear c10
        try clear c10b0
        try clear c10b1
        try clear hcz11_0
        try clear hcz11_1
        try clear hcz11_2
        try clear hcz11_3
        try clear hcz11_4
        try clear hcz12_0
        try clear hcz12_1
        try clear hcz12_2
        try clear hcz12_3
        try clear hcz12_4
        try clear hcz5_0
        try clear hcz5_1
        try clear hcz5_2
        try clear hcz5_3
        try clear hcz5_4
        try clear hcz9_0
        try clear hcz9_1
        try clear hcz9_2
        try clear hcz9_3
        try clear hcz9_4
        try clear hfz11_0
        try clear hfz11_1
        try clear hfz11_2
        try clear hfz11_3
        try clear hfz11_4
        try clear hfz12_0
        try clear hfz12_1
        try clear hfz12_2
        try clear hfz12_3
        try clear hfz12_4
        try clear hfz5_0
        try clear hfz5_1
        try clear hfz5_2
        try clear hfz5_3
        try clear hfz5_4
        try clear hfz9_0
        try clear hfz9_1
        try clear hfz9_2
        try clear hfz9_3
        try clear hfz9_4
        obtain ⟨kq, x42_6, rfl, HA, HJ6, BK178, HB⟩ := hcut
        cases kq with
        | zero => exact absurd HA.out (by simp [rollbookref06_Cell.j0])
        | succ kj6 =>
          have H := HA.out
          clear HA
          simp only [rollbookref06_Cell.j0] at H
          by_cases c13 : x42_6 = true
          · subst c13
            have H1 : (some false) = some r := by rw [if_pos rfl] at H; exact H
            clear H
            have H := H1
            clear H1
            obtain rfl := Option.some.inj H
            go_wp2
            go_ret
            exact ⟨by first | rfl | (simp [errW_none, errW_some] <;> rfl) | (simp [*, errW_none, errW_some] <;> rfl), by repeat (first | (with_reducible first | exact HB.out | apply below_alloc | apply pw_below_drewN | apply below_drew1 | refine below_set ?_ GE178.out) | exact HB.out)⟩
          · replace c13 := Bool.eq_false_iff.mpr c13
            subst c13
            have H1 : (if a1_2 = 0 then (if a1_3 = 0 then (some (decide ((a1_1.size : Int) ≤ 96))) else (if a1_1.toList = ([] : List UInt8) then (if a1_2 ≥ 1 then (if a1_2 ≤ 511 then (if a1_3 ≥ 97 then (some (decide (a1_3 ≤ 4000))) else (some false)) else (some false)) else (some false)) else (some false))) else (if a1_1.toList = ([] : List UInt8) then (if a1_2 ≥ 1 then (if a1_2 ≤ 511 then (if a1_3 ≥ 97 then (some (decide (a1_3 ≤ 4000))) else (some false)) else (some false)) else (some false)) else (some false))) = some r := by rw [if_neg (show ¬ (false = true) by decide)] at H; exact H
            clear H
            have H := H1
            clear H1
            by_cases c14 : a1_2 = 0
            · rw [if_pos c14] at H
              have c14b0 : (a1_2 == 0) = true := beq_iff_eq.mpr c14
              have c14b1 : (a1_2 != 0) = false := bne_eq_false_iff_eq.mpr c14
              clear c14
              by_cases c15 : a1_3 = 0
              · rw [if_pos c15] at H
                have c15b0 : (a1_3 == 0) = true := beq_iff_eq.mpr c15
                have c15b1 : (a1_3 != 0) = false := bne_eq_false_iff_eq.mpr c15
                clear c15
                obtain rfl := Option.some.inj H
                have hcz16_0 : wc.cell? ⟨gb178, 0, none⟩ = some (.string a1_0) := (blk_cell BK178.out 0).trans rfl
                have hcz16_1 : wc.cell? ⟨gb178, 1, none⟩ = some (.string a1_1) := (blk_cell BK178.out 1).trans rfl
                have hcz16_2 : wc.cell? ⟨gb178, 2, none⟩ = some (.int .i64 a1_2) := (blk_cell BK178.out 2).trans rfl
                have hcz16_3 : wc.cell? ⟨gb178, 3, none⟩ = some (.int .i64 a1_3) := (blk_cell BK178.out 3).trans rfl
                have hcz16_4 : wc.cell? ⟨gb178, 4, none⟩ = some (.int .i64 a1_4) := (blk_cell BK178.out 4).trans rfl
                have hfz16_0 := blk_frozen BK178.out 0
                have hfz16_1 := blk_frozen BK178.out 1
                have hfz16_2 := blk_frozen BK178.out 2
                have hfz16_3 := blk_frozen BK178.out 3
                have hfz16_4 := blk_frozen BK178.out 4
                go_wp2
                go_ret
                exact ⟨by first | rfl | (simp [errW_none, errW_some] <;> rfl) | (simp [*, errW_none, errW_some] <;> rfl), by repeat (first | (with_reducible first | exact HB.out | apply below_alloc | apply pw_below_drewN | apply below_drew1 | refine below_set ?_ GE178.out) | exact HB.out)⟩
              · rw [if_neg c15] at H
                have c15b0 : (a1_3 == 0) = false := beq_eq_false_iff_ne.mpr c15
                have c15b1 : (a1_3 != 0) = true := bne_iff_ne.mpr c15
                by_cases c17 : a1_1.toList = ([] : List UInt8)
                · rw [if_pos c17] at H
                  have c17b0 : (a1_1.toList == ([] : List UInt8)) = true := beq_iff_eq.mpr c17
                  have c17b1 : (a1_1.toList != ([] : List UInt8)) = false := bne_eq_false_iff_eq.mpr c17
                  clear c17
                  by_cases c18 : a1_2 ≥ 1
                  · rw [if_pos c18] at H
                    have c18b0 : decide (1 ≤ a1_2) = true := decide_eq_true c18
                    clear c18
                    by_cases c19 : a1_2 ≤ 511
                    · rw [if_pos c19] at H
                      have c19b0 : decide (a1_2 ≤ 511) = true := decide_eq_true c19
                      clear c19
                      by_cases c20 : a1_3 ≥ 97
                      · rw [if_pos c20] at H
                        have c20b0 : decide (97 ≤ a1_3) = true := decide_eq_true c20
                        clear c20
                        obtain rfl := Option.some.inj H
                        have hcz21_0 : wc.cell? ⟨gb178, 0, none⟩ = some (.string a1_0) := (blk_cell BK178.out 0).trans rfl
                        have hcz21_1 : wc.cell? ⟨gb178, 1, none⟩ = some (.string a1_1) := (blk_cell BK178.out 1).trans rfl
                        have hcz21_2 : wc.cell? ⟨gb178, 2, none⟩ = some (.int .i64 a1_2) := (blk_cell BK178.out 2).trans rfl
                        have hcz21_3 : wc.cell? ⟨gb178, 3, none⟩ = some (.int .i64 a1_3) := (blk_cell BK178.out 3).trans rfl
                        have hcz21_4 : wc.cell? ⟨gb178, 4, none⟩ = some (.int .i64 a1_4) := (blk_cell BK178.out 4).trans rfl
                        have hfz21_0 := blk_frozen BK178.out 0
                        have hfz21_1 := blk_frozen BK178.out 1
                        have hfz21_2 := blk_frozen BK178.out 2
                        have hfz21_3 := blk_frozen BK178.out 3
                        have hfz21_4 := blk_frozen BK178.out 4
                        go_wp2
                        go_ret
                        exact ⟨by first | rfl | (simp [errW_none, errW_some] <;> rfl) | (simp [*, errW_none, errW_some] <;> rfl), by repeat (first | (with_reducible first | exact HB.out | apply below_alloc | apply pw_below_drewN | apply below_drew1 | refine below_set ?_ GE178.out) | exact HB.out)⟩
                      · rw [if_neg c20] at H
                        have c20b0 : decide (97 ≤ a1_3) = false := decide_eq_false c20
                        clear c20
                        obtain rfl := Option.some.inj H
                        have hcz22_0 : wc.cell? ⟨gb178, 0, none⟩ = some (.string a1_0) := (blk_cell BK178.out 0).trans rfl
                        have hcz22_1 : wc.cell? ⟨gb178, 1, none⟩ = some (.string a1_1) := (blk_cell BK178.out 1).trans rfl
                        have hcz22_2 : wc.cell? ⟨gb178, 2, none⟩ = some (.int .i64 a1_2) := (blk_cell BK178.out 2).trans rfl
                        have hcz22_3 : wc.cell? ⟨gb178, 3, none⟩ = some (.int .i64 a1_3) := (blk_cell BK178.out 3).trans rfl
                        have hcz22_4 : wc.cell? ⟨gb178, 4, none⟩ = some (.int .i64 a1_4) := (blk_cell BK178.out 4).trans rfl
                        have hfz22_0 := blk_frozen BK178.out 0
                        have hfz22_1 := blk_frozen BK178.out 1
                        have hfz22_2 := blk_frozen BK178.out 2
                        have hfz22_3 := blk_frozen BK178.out 3
                        have hfz22_4 := blk_frozen BK178.out 4
                        go_wp2
                        go_ret
                        exact ⟨by first | rfl | (simp [errW_none, errW_some] <;> rfl) | (simp [*, errW_none, errW_some] <;> rfl), by repeat (first | (with_reducible first | exact HB.out | apply below_alloc | apply pw_below_drewN | apply below_drew1 | refine below_set ?_ GE178.out) | exact HB.out)⟩
                    · rw [if_neg c19] at H
                      have c19b0 : decide (a1_2 ≤ 511) = false := decide_eq_false c19
                      clear c19
                      obtain rfl := Option.some.inj H
                      have hcz23_0 : wc.cell? ⟨gb178, 0, none⟩ = some (.string a1_0) := (blk_cell BK178.out 0).trans rfl
                      have hcz23_1 : wc.cell? ⟨gb178, 1, none⟩ = some (.string a1_1) := (blk_cell BK178.out 1).trans rfl
                      have hcz23_2 : wc.cell? ⟨gb178, 2, none⟩ = some (.int .i64 a1_2) := (blk_cell BK178.out 2).trans rfl
                      have hcz23_3 : wc.cell? ⟨gb178, 3, none⟩ = some (.int .i64 a1_3) := (blk_cell BK178.out 3).trans rfl
                      have hcz23_4 : wc.cell? ⟨gb178, 4, none⟩ = some (.int .i64 a1_4) := (blk_cell BK178.out 4).trans rfl
                      have hfz23_0 := blk_frozen BK178.out 0
                      have hfz23_1 := blk_frozen BK178.out 1
                      have hfz23_2 := blk_frozen BK178.out 2
                      have hfz23_3 := blk_frozen BK178.out 3
                      have hfz23_4 := blk_frozen BK178.out 4
                      go_wp2
                      go_ret
                      exact ⟨by first | rfl | (simp [errW_none, errW_some] <;> rfl) | (simp [*, errW_none, errW_some] <;> rfl), by repeat (first | (with_reducible first | exact HB.out | apply below_alloc | apply pw_below_drewN | apply below_drew1 | refine below_set ?_ GE178.out) | exact HB.out)⟩
                  · rw [if_neg c18] at H
                    have c18b0 : decide (1 ≤ a1_2) = false := decide_eq_false c18
                    clear c18
                    obtain rfl := Option.some.inj H
                    have hcz24_0 : wc.cell? ⟨gb178, 0, none⟩ = some (.string a1_0) := (blk_cell BK178.out 0).trans rfl
                    have hcz24_1 : wc.cell? ⟨gb178, 1, none⟩ = some (.string a1_1) := (blk_cell BK178.out 1).trans rfl
                    have hcz24_2 : wc.cell? ⟨gb178, 2, none⟩ = some (.int .i64 a1_2) := (blk_cell BK178.out 2).trans rfl
                    have hcz24_3 : wc.cell? ⟨gb178, 3, none⟩ = some (.int .i64 a1_3) := (blk_cell BK178.out 3).trans rfl
                    have hcz24_4 : wc.cell? ⟨gb178, 4, none⟩ = some (.int .i64 a1_4) := (blk_cell BK178.out 4).trans rfl
                    have hfz24_0 := blk_frozen BK178.out 0
                    have hfz24_1 := blk_frozen BK178.out 1
                    have hfz24_2 := blk_frozen BK178.out 2
                    have hfz24_3 := blk_frozen BK178.out 3
                    have hfz24_4 := blk_frozen BK178.out 4
                    go_wp2
                    go_ret
                    exact ⟨by first | rfl | (simp [errW_none, errW_some] <;> rfl) | (simp [*, errW_none, errW_some] <;> rfl), by repeat (first | (with_reducible first | exact HB.out | apply below_alloc | apply pw_below_drewN | apply below_drew1 | refine below_set ?_ GE178.out) | exact HB.out)⟩
                · rw [if_neg c17] at H
                  have c17b0 : (a1_1.toList == ([] : List UInt8)) = false := beq_eq_false_iff_ne.mpr c17
                  have c17b1 : (a1_1.toList != ([] : List UInt8)) = true := bne_iff_ne.mpr c17
                  obtain rfl := Option.some.inj H
                  have hcz25_0 : wc.cell? ⟨gb178, 0, none⟩ = some (.string a1_0) := (blk_cell BK178.out 0).trans rfl
                  have hcz25_1 : wc.cell? ⟨gb178, 1, none⟩ = some (.string a1_1) := (blk_cell BK178.out 1).trans rfl
                  have hcz25_2 : wc.cell? ⟨gb178, 2, none⟩ = some (.int .i64 a1_2) := (blk_cell BK178.out 2).trans rfl
                  have hcz25_3 : wc.cell? ⟨gb178, 3, none⟩ = some (.int .i64 a1_3) := (blk_cell BK178.out 3).trans rfl
                  have hcz25_4 : wc.cell? ⟨gb178, 4, none⟩ = some (.int .i64 a1_4) := (blk_cell BK178.out 4).trans rfl
                  have hfz25_0 := blk_frozen BK178.out 0
                  have hfz25_1 := blk_frozen BK178.out 1
                  have hfz25_2 := blk_frozen BK178.out 2
                  have hfz25_3 := blk_frozen BK178.out 3
                  have hfz25_4 := blk_frozen BK178.out 4
                  go_wp2
                  go_ret
                  exact ⟨by first | rfl | (simp [errW_none, errW_some] <;> rfl) | (simp [*, errW_none, errW_some] <;> rfl), by repeat (first | (with_reducible first | exact HB.out | apply below_alloc | apply pw_below_drewN | apply below_drew1 | refine below_set ?_ GE178.out) | exact HB.out)⟩
            · rw [if_neg c14] at H
              have c14b0 : (a1_2 == 0) = false := beq_eq_false_iff_ne.mpr c14
              have c14b1 : (a1_2 != 0) = true := bne_iff_ne.mpr c14
              by_cases c26 : a1_1.toList = ([] : List UInt8)
              · rw [if_pos c26] at H
                have c26b0 : (a1_1.toList == ([] : List UInt8)) = true := beq_iff_eq.mpr c26
                have c26b1 : (a1_1.toList != ([] : List UInt8)) = false := bne_eq_false_iff_eq.mpr c26
                clear c26
                by_cases c27 : a1_2 ≥ 1
                · rw [if_pos c27] at H
                  have c27b0 : decide (1 ≤ a1_2) = true := decide_eq_true c27
                  clear c27
                  by_cases c28 : a1_2 ≤ 511
                  · rw [if_pos c28] at H
                    have c28b0 : decide (a1_2 ≤ 511) = true := decide_eq_true c28
                    clear c28
                    by_cases c29 : a1_3 ≥ 97
                    · rw [if_pos c29] at H
                      have c29b0 : decide (97 ≤ a1_3) = true := decide_eq_true c29
                      clear c29
                      obtain rfl := Option.some.inj H
                      have hcz30_0 : wc.cell? ⟨gb178, 0, none⟩ = some (.string a1_0) := (blk_cell BK178.out 0).trans rfl
                      have hcz30_1 : wc.cell? ⟨gb178, 1, none⟩ = some (.string a1_1) := (blk_cell BK178.out 1).trans rfl
                      have hcz30_2 : wc.cell? ⟨gb178, 2, none⟩ = some (.int .i64 a1_2) := (blk_cell BK178.out 2).trans rfl
                      have hcz30_3 : wc.cell? ⟨gb178, 3, none⟩ = some (.int .i64 a1_3) := (blk_cell BK178.out 3).trans rfl
                      have hcz30_4 : wc.cell? ⟨gb178, 4, none⟩ = some (.int .i64 a1_4) := (blk_cell BK178.out 4).trans rfl
                      have hfz30_0 := blk_frozen BK178.out 0
                      have hfz30_1 := blk_frozen BK178.out 1
                      have hfz30_2 := blk_frozen BK178.out 2
                      have hfz30_3 := blk_frozen BK178.out 3
                      have hfz30_4 := blk_frozen BK178.out 4
                      go_wp2
                      go_ret
                      exact ⟨by first | rfl | (simp [errW_none, errW_some] <;> rfl) | (simp [*, errW_none, errW_some] <;> rfl), by repeat (first | (with_reducible first | exact HB.out | apply below_alloc | apply pw_below_drewN | apply below_drew1 | refine below_set ?_ GE178.out) | exact HB.out)⟩
                    · rw [if_neg c29] at H
                      have c29b0 : decide (97 ≤ a1_3) = false := decide_eq_false c29
                      clear c29
                      obtain rfl := Option.some.inj H
                      have hcz31_0 : wc.cell? ⟨gb178, 0, none⟩ = some (.string a1_0) := (blk_cell BK178.out 0).trans rfl
                      have hcz31_1 : wc.cell? ⟨gb178, 1, none⟩ = some (.string a1_1) := (blk_cell BK178.out 1).trans rfl
                      have hcz31_2 : wc.cell? ⟨gb178, 2, none⟩ = some (.int .i64 a1_2) := (blk_cell BK178.out 2).trans rfl
                      have hcz31_3 : wc.cell? ⟨gb178, 3, none⟩ = some (.int .i64 a1_3) := (blk_cell BK178.out 3).trans rfl
                      have hcz31_4 : wc.cell? ⟨gb178, 4, none⟩ = some (.int .i64 a1_4) := (blk_cell BK178.out 4).trans rfl
                      have hfz31_0 := blk_frozen BK178.out 0
                      have hfz31_1 := blk_frozen BK178.out 1
                      have hfz31_2 := blk_frozen BK178.out 2
                      have hfz31_3 := blk_frozen BK178.out 3
                      have hfz31_4 := blk_frozen BK178.out 4
                      go_wp2
                      go_ret
                      exact ⟨by first | rfl | (simp [errW_none, errW_some] <;> rfl) | (simp [*, errW_none, errW_some] <;> rfl), by repeat (first | (with_reducible first | exact HB.out | apply below_alloc | apply pw_below_drewN | apply below_drew1 | refine below_set ?_ GE178.out) | exact HB.out)⟩
                  · rw [if_neg c28] at H
                    have c28b0 : decide (a1_2 ≤ 511) = false := decide_eq_false c28
                    clear c28
                    obtain rfl := Option.some.inj H
                    have hcz32_0 : wc.cell? ⟨gb178, 0, none⟩ = some (.string a1_0) := (blk_cell BK178.out 0).trans rfl
                    have hcz32_1 : wc.cell? ⟨gb178, 1, none⟩ = some (.string a1_1) := (blk_cell BK178.out 1).trans rfl
                    have hcz32_2 : wc.cell? ⟨gb178, 2, none⟩ = some (.int .i64 a1_2) := (blk_cell BK178.out 2).trans rfl
                    have hcz32_3 : wc.cell? ⟨gb178, 3, none⟩ = some (.int .i64 a1_3) := (blk_cell BK178.out 3).trans rfl
                    have hcz32_4 : wc.cell? ⟨gb178, 4, none⟩ = some (.int .i64 a1_4) := (blk_cell BK178.out 4).trans rfl
                    have hfz32_0 := blk_frozen BK178.out 0
                    have hfz32_1 := blk_frozen BK178.out 1
                    have hfz32_2 := blk_frozen BK178.out 2
                    have hfz32_3 := blk_frozen BK178.out 3
                    have hfz32_4 := blk_frozen BK178.out 4
                    go_wp2
                    go_ret
                    exact ⟨by first | rfl | (simp [errW_none, errW_some] <;> rfl) | (simp [*, errW_none, errW_some] <;> rfl), by repeat (first | (with_reducible first | exact HB.out | apply below_alloc | apply pw_below_drewN | apply below_drew1 | refine below_set ?_ GE178.out) | exact HB.out)⟩
                · rw [if_neg c27] at H
                  have c27b0 : decide (1 ≤ a1_2) = false := decide_eq_false c27
                  clear c27
                  obtain rfl := Option.some.inj H
                  have hcz33_0 : wc.cell? ⟨gb178, 0, none⟩ = some (.string a1_0) := (blk_cell BK178.out 0).trans rfl
                  have hcz33_1 : wc.cell? ⟨gb178, 1, none⟩ = some (.string a1_1) := (blk_cell BK178.out 1).trans rfl
                  have hcz33_2 : wc.cell? ⟨gb178, 2, none⟩ = some (.int .i64 a1_2) := (blk_cell BK178.out 2).trans rfl
                  have hcz33_3 : wc.cell? ⟨gb178, 3, none⟩ = some (.int .i64 a1_3) := (blk_cell BK178.out 3).trans rfl
                  have hcz33_4 : wc.cell? ⟨gb178, 4, none⟩ = some (.int .i64 a1_4) := (blk_cell BK178.out 4).trans rfl
                  have hfz33_0 := blk_frozen BK178.out 0
                  have hfz33_1 := blk_frozen BK178.out 1
                  have hfz33_2 := blk_frozen BK178.out 2
                  have hfz33_3 := blk_frozen BK178.out 3
                  have hfz33_4 := blk_frozen BK178.out 4
                  go_wp2
                  go_ret
                  exact ⟨by first | rfl | (simp [errW_none, errW_some] <;> rfl) | (simp [*, errW_none, errW_some] <;> rfl), by repeat (first | (with_reducible first | exact HB.out | apply below_alloc | apply pw_below_drewN | apply below_drew1 | refine below_set ?_ GE178.out) | exact HB.out)⟩
              · rw [if_neg c26] at H
                have c26b0 : (a1_1.toList == ([] : List UInt8)) = false := beq_eq_false_iff_ne.mpr c26
                have c26b1 : (a1_1.toList != ([] : List UInt8)) = true := bne_iff_ne.mpr c26
                obtain rfl := Option.some.inj H
                have hcz34_0 : wc.cell? ⟨gb178, 0, none⟩ = some (.string a1_0) := (blk_cell BK178.out 0).trans rfl
                have hcz34_1 : wc.cell? ⟨gb178, 1, none⟩ = some (.string a1_1) := (blk_cell BK178.out 1).trans rfl
                have hcz34_2 : wc.cell? ⟨gb178, 2, none⟩ = some (.int .i64 a1_2) := (blk_cell BK178.out 2).trans rfl
                have hcz34_3 : wc.cell? ⟨gb178, 3, none⟩ = some (.int .i64 a1_3) := (blk_cell BK178.out 3).trans rfl
                have hcz34_4 : wc.cell? ⟨gb178, 4, none⟩ = some (.int .i64 a1_4) := (blk_cell BK178.out 4).trans rfl
                have hfz34_0 := blk_frozen BK178.out 0
                have hfz34_1 := blk_frozen BK178.out 1
                have hfz34_2 := blk_frozen BK178.out 2
                have hfz34_3 := blk_frozen BK178.out 3
                have hfz34_4 := blk_frozen BK178.out 4
                go_wp2
                go_ret
                exact ⟨by first | rfl | (simp [errW_none, errW_some] <;> rfl) | (simp [*, errW_none, errW_some] <;> rfl), by repeat (first | (with_reducible first | exact HB.out | apply below_alloc | apply pw_below_drewN | apply below_drew1 | refine below_set ?_ GE178.out) | exact HB.out)⟩
    · replace c6 := Bool.eq_false_iff.mpr c6
      subst c6
      have H1 : (if a1_4 ≥ 1 then (if a1_4 ≤ 511 then (if a1_1.toList = ([] : List UInt8) then (if a1_2 = 0 then (some (a1_3 == 0)) else (some false)) else (some false)) else (some false)) else (some false)) = some r := by rw [if_neg (show ¬ (false = true) by decide)] at H; exact H
      clear H
      have H := H1
      clear H1
      by_cases c35 : a1_4 ≥ 1
      · rw [if_pos c35] at H
        have c35b0 : decide (1 ≤ a1_4) = true := decide_eq_true c35
        clear c35
        by_cases c36 : a1_4 ≤ 511
        · rw [if_pos c36] at H
          have c36b0 : decide (a1_4 ≤ 511) = true := decide_eq_true c36
          clear c36
          by_cases c37 : a1_1.toList = ([] : List UInt8)
          · rw [if_pos c37] at H
            have c37b0 : (a1_1.toList == ([] : List UInt8)) = true := beq_iff_eq.mpr c37
            have c37b1 : (a1_1.toList != ([] : List UInt8)) = false := bne_eq_false_iff_eq.mpr c37
            clear c37
            by_cases c38 : a1_2 = 0
            · rw [if_pos c38] at H
              have c38b0 : (a1_2 == 0) = true := beq_iff_eq.mpr c38
              have c38b1 : (a1_2 != 0) = false := bne_eq_false_iff_eq.mpr c38
              clear c38
              obtain rfl := Option.some.inj H
              go_enter Try.func92, Try.ntmps92
              go_wp2_with (first | ((with_reducible refine gate_dst (N := 3) rfl ?_); refine box_event ?hg (N := 3) ?hd (cs := #[.string a1_0, .string a1_1, .int .i64 a1_2, .int .i64 a1_3, .int .i64 a1_4]) (t := 35) ?hr ?_; (case hd => rfl); (case hg => rfl); (case hr => first | (go_simp; done) | (go_simp; rfl)); intro gb178 hg w39 hbox hb; have n0_ := Aside0.mk (below_step (by repeat (first | (with_reducible first | exact HB.out | apply below_alloc | apply pw_below_drewN | apply below_drew1) | exact HB.out)) hb); have n1_ := Aside0.mk (hbox); have n2_ := Aside0.mk ((by rw [hg]; exact (below_size (by repeat (first | (with_reducible first | exact HB.out | apply below_alloc | apply pw_below_drewN | apply below_drew1) | exact HB.out))) : w.heap.size ≤ gb178)); have n3_ := Aside0.mk ((by rw [hg]; exact (below_size (by repeat (first | (with_reducible first | exact HB.out | apply below_alloc | apply pw_below_drewN | apply below_drew1) | exact HB.out))) : w.heap.size ≤ gb178)); clear HB; have HB := n0_; have BK178 := n1_; have GW178 := n2_; have GE178 := n3_; clear n0_ n1_ n2_ n3_; clear hb hbox hg; have hcz40_0 : w39.cell? ⟨gb178, 0, none⟩ = some (.string a1_0) := (blk_cell BK178.out 0).trans rfl; have hcz40_1 : w39.cell? ⟨gb178, 1, none⟩ = some (.string a1_1) := (blk_cell BK178.out 1).trans rfl; have hcz40_2 : w39.cell? ⟨gb178, 2, none⟩ = some (.int .i64 a1_2) := (blk_cell BK178.out 2).trans rfl; have hcz40_3 : w39.cell? ⟨gb178, 3, none⟩ = some (.int .i64 a1_3) := (blk_cell BK178.out 3).trans rfl; have hcz40_4 : w39.cell? ⟨gb178, 4, none⟩ = some (.int .i64 a1_4) := (blk_cell BK178.out 4).trans rfl; have hfz40_0 := blk_frozen BK178.out 0; have hfz40_1 := blk_frozen BK178.out 1; have hfz40_2 := blk_frozen BK178.out 2; have hfz40_3 := blk_frozen BK178.out 3; have hfz40_4 := blk_frozen BK178.out 4))
              go_ret
              exact ⟨by first | rfl | (simp [errW_none, errW_some] <;> rfl) | (simp [*, errW_none, errW_some] <;> rfl), by repeat (first | (with_reducible first | exact HB.out | apply below_alloc | apply pw_below_drewN | apply below_drew1 | refine below_set ?_ GE178.out) | exact HB.out)⟩
            · rw [if_neg c38] at H
              have c38b0 : (a1_2 == 0) = false := beq_eq_false_iff_ne.mpr c38
              have c38b1 : (a1_2 != 0) = true := bne_iff_ne.mpr c38
              obtain rfl := Option.some.inj H
              go_enter Try.func92, Try.ntmps92
              go_wp2_with (first | ((with_reducible refine gate_dst (N := 3) rfl ?_); refine box_event ?hg (N := 3) ?hd (cs := #[.string a1_0, .string a1_1, .int .i64 a1_2, .int .i64 a1_3, .int .i64 a1_4]) (t := 35) ?hr ?_; (case hd => rfl); (case hg => rfl); (case hr => first | (go_simp; done) | (go_simp; rfl)); intro gb178 hg w41 hbox hb; have n0_ := Aside0.mk (below_step (by repeat (first | (with_reducible first | exact HB.out | apply below_alloc | apply pw_below_drewN | apply below_drew1) | exact HB.out)) hb); have n1_ := Aside0.mk (hbox); have n2_ := Aside0.mk ((by rw [hg]; exact (below_size (by repeat (first | (with_reducible first | exact HB.out | apply below_alloc | apply pw_below_drewN | apply below_drew1) | exact HB.out))) : w.heap.size ≤ gb178)); have n3_ := Aside0.mk ((by rw [hg]; exact (below_size (by repeat (first | (with_reducible first | exact HB.out | apply below_alloc | apply pw_below_drewN | apply below_drew1) | exact HB.out))) : w.heap.size ≤ gb178)); clear HB; have HB := n0_; have BK178 := n1_; have GW178 := n2_; have GE178 := n3_; clear n0_ n1_ n2_ n3_; clear hb hbox hg; have hcz42_0 : w41.cell? ⟨gb178, 0, none⟩ = some (.string a1_0) := (blk_cell BK178.out 0).trans rfl; have hcz42_1 : w41.cell? ⟨gb178, 1, none⟩ = some (.string a1_1) := (blk_cell BK178.out 1).trans rfl; have hcz42_2 : w41.cell? ⟨gb178, 2, none⟩ = some (.int .i64 a1_2) := (blk_cell BK178.out 2).trans rfl; have hcz42_3 : w41.cell? ⟨gb178, 3, none⟩ = some (.int .i64 a1_3) := (blk_cell BK178.out 3).trans rfl; have hcz42_4 : w41.cell? ⟨gb178, 4, none⟩ = some (.int .i64 a1_4) := (blk_cell BK178.out 4).trans rfl; have hfz42_0 := blk_frozen BK178.out 0; have hfz42_1 := blk_frozen BK178.out 1; have hfz42_2 := blk_frozen BK178.out 2; have hfz42_3 := blk_frozen BK178.out 3; have hfz42_4 := blk_frozen BK178.out 4))
              go_ret
              exact ⟨by first | rfl | (simp [errW_none, errW_some] <;> rfl) | (simp [*, errW_none, errW_some] <;> rfl), by repeat (first | (with_reducible first | exact HB.out | apply below_alloc | apply pw_below_drewN | apply below_drew1 | refine below_set ?_ GE178.out) | exact HB.out)⟩
          · rw [if_neg c37] at H
            have c37b0 : (a1_1.toList == ([] : List UInt8)) = false := beq_eq_false_iff_ne.mpr c37
            have c37b1 : (a1_1.toList != ([] : List UInt8)) = true := bne_iff_ne.mpr c37
            obtain rfl := Option.some.inj H
            go_enter Try.func92, Try.ntmps92
            go_wp2_with (first | ((with_reducible refine gate_dst (N := 3) rfl ?_); refine box_event ?hg (N := 3) ?hd (cs := #[.string a1_0, .string a1_1, .int .i64 a1_2, .int .i64 a1_3, .int .i64 a1_4]) (t := 35) ?hr ?_; (case hd => rfl); (case hg => rfl); (case hr => first | (go_simp; done) | (go_simp; rfl)); intro gb178 hg w43 hbox hb; have n0_ := Aside0.mk (below_step (by repeat (first | (with_reducible first | exact HB.out | apply below_alloc | apply pw_below_drewN | apply below_drew1) | exact HB.out)) hb); have n1_ := Aside0.mk (hbox); have n2_ := Aside0.mk ((by rw [hg]; exact (below_size (by repeat (first | (with_reducible first | exact HB.out | apply below_alloc | apply pw_below_drewN | apply below_drew1) | exact HB.out))) : w.heap.size ≤ gb178)); have n3_ := Aside0.mk ((by rw [hg]; exact (below_size (by repeat (first | (with_reducible first | exact HB.out | apply below_alloc | apply pw_below_drewN | apply below_drew1) | exact HB.out))) : w.heap.size ≤ gb178)); clear HB; have HB := n0_; have BK178 := n1_; have GW178 := n2_; have GE178 := n3_; clear n0_ n1_ n2_ n3_; clear hb hbox hg; have hcz44_0 : w43.cell? ⟨gb178, 0, none⟩ = some (.string a1_0) := (blk_cell BK178.out 0).trans rfl; have hcz44_1 : w43.cell? ⟨gb178, 1, none⟩ = some (.string a1_1) := (blk_cell BK178.out 1).trans rfl; have hcz44_2 : w43.cell? ⟨gb178, 2, none⟩ = some (.int .i64 a1_2) := (blk_cell BK178.out 2).trans rfl; have hcz44_3 : w43.cell? ⟨gb178, 3, none⟩ = some (.int .i64 a1_3) := (blk_cell BK178.out 3).trans rfl; have hcz44_4 : w43.cell? ⟨gb178, 4, none⟩ = some (.int .i64 a1_4) := (blk_cell BK178.out 4).trans rfl; have hfz44_0 := blk_frozen BK178.out 0; have hfz44_1 := blk_frozen BK178.out 1; have hfz44_2 := blk_frozen BK178.out 2; have hfz44_3 := blk_frozen BK178.out 3; have hfz44_4 := blk_frozen BK178.out 4))
            go_ret
            exact ⟨by first | rfl | (simp [errW_none, errW_some] <;> rfl) | (simp [*, errW_none, errW_some] <;> rfl), by repeat (first | (with_reducible first | exact HB.out | apply below_alloc | apply pw_below_drewN | apply below_drew1 | refine below_set ?_ GE178.out) | exact HB.out)⟩
        · rw [if_neg c36] at H
          have c36b0 : decide (a1_4 ≤ 511) = false := decide_eq_false c36
          clear c36
          obtain rfl := Option.some.inj H
          go_enter Try.func92, Try.ntmps92
          go_wp2_with (first | ((with_reducible refine gate_dst (N := 3) rfl ?_); refine box_event ?hg (N := 3) ?hd (cs := #[.string a1_0, .string a1_1, .int .i64 a1_2, .int .i64 a1_3, .int .i64 a1_4]) (t := 35) ?hr ?_; (case hd => rfl); (case hg => rfl); (case hr => first | (go_simp; done) | (go_simp; rfl)); intro gb178 hg w45 hbox hb; have n0_ := Aside0.mk (below_step (by repeat (first | (with_reducible first | exact HB.out | apply below_alloc | apply pw_below_drewN | apply below_drew1) | exact HB.out)) hb); have n1_ := Aside0.mk (hbox); have n2_ := Aside0.mk ((by rw [hg]; exact (below_size (by repeat (first | (with_reducible first | exact HB.out | apply below_alloc | apply pw_below_drewN | apply below_drew1) | exact HB.out))) : w.heap.size ≤ gb178)); have n3_ := Aside0.mk ((by rw [hg]; exact (below_size (by repeat (first | (with_reducible first | exact HB.out | apply below_alloc | apply pw_below_drewN | apply below_drew1) | exact HB.out))) : w.heap.size ≤ gb178)); clear HB; have HB := n0_; have BK178 := n1_; have GW178 := n2_; have GE178 := n3_; clear n0_ n1_ n2_ n3_; clear hb hbox hg; have hcz46_0 : w45.cell? ⟨gb178, 0, none⟩ = some (.string a1_0) := (blk_cell BK178.out 0).trans rfl; have hcz46_1 : w45.cell? ⟨gb178, 1, none⟩ = some (.string a1_1) := (blk_cell BK178.out 1).trans rfl; have hcz46_2 : w45.cell? ⟨gb178, 2, none⟩ = some (.int .i64 a1_2) := (blk_cell BK178.out 2).trans rfl; have hcz46_3 : w45.cell? ⟨gb178, 3, none⟩ = some (.int .i64 a1_3) := (blk_cell BK178.out 3).trans rfl; have hcz46_4 : w45.cell? ⟨gb178, 4, none⟩ = some (.int .i64 a1_4) := (blk_cell BK178.out 4).trans rfl; have hfz46_0 := blk_frozen BK178.out 0; have hfz46_1 := blk_frozen BK178.out 1; have hfz46_2 := blk_frozen BK178.out 2; have hfz46_3 := blk_frozen BK178.out 3; have hfz46_4 := blk_frozen BK178.out 4))
          go_ret
          exact ⟨by first | rfl | (simp [errW_none, errW_some] <;> rfl) | (simp [*, errW_none, errW_some] <;> rfl), by repeat (first | (with_reducible first | exact HB.out | apply below_alloc | apply pw_below_drewN | apply below_drew1 | refine below_set ?_ GE178.out) | exact HB.out)⟩
      · rw [if_neg c35] at H
        have c35b0 : decide (1 ≤ a1_4) = false := decide_eq_false c35
        clear c35
        obtain rfl := Option.some.inj H
        go_enter Try.func92, Try.ntmps92
        go_wp2_with (first | ((with_reducible refine gate_dst (N := 3) rfl ?_); refine box_event ?hg (N := 3) ?hd (cs := #[.string a1_0, .string a1_1, .int .i64 a1_2, .int .i64 a1_3, .int .i64 a1_4]) (t := 35) ?hr ?_; (case hd => rfl); (case hg => rfl); (case hr => first | (go_simp; done) | (go_simp; rfl)); intro gb178 hg w47 hbox hb; have n0_ := Aside0.mk (below_step (by repeat (first | (with_reducible first | exact HB.out | apply below_alloc | apply pw_below_drewN | apply below_drew1) | exact HB.out)) hb); have n1_ := Aside0.mk (hbox); have n2_ := Aside0.mk ((by rw [hg]; exact (below_size (by repeat (first | (with_reducible first | exact HB.out | apply below_alloc | apply pw_below_drewN | apply below_drew1) | exact HB.out))) : w.heap.size ≤ gb178)); have n3_ := Aside0.mk ((by rw [hg]; exact (below_size (by repeat (first | (with_reducible first | exact HB.out | apply below_alloc | apply pw_below_drewN | apply below_drew1) | exact HB.out))) : w.heap.size ≤ gb178)); clear HB; have HB := n0_; have BK178 := n1_; have GW178 := n2_; have GE178 := n3_; clear n0_ n1_ n2_ n3_; clear hb hbox hg; have hcz48_0 : w47.cell? ⟨gb178, 0, none⟩ = some (.string a1_0) := (blk_cell BK178.out 0).trans rfl; have hcz48_1 : w47.cell? ⟨gb178, 1, none⟩ = some (.string a1_1) := (blk_cell BK178.out 1).trans rfl; have hcz48_2 : w47.cell? ⟨gb178, 2, none⟩ = some (.int .i64 a1_2) := (blk_cell BK178.out 2).trans rfl; have hcz48_3 : w47.cell? ⟨gb178, 3, none⟩ = some (.int .i64 a1_3) := (blk_cell BK178.out 3).trans rfl; have hcz48_4 : w47.cell? ⟨gb178, 4, none⟩ = some (.int .i64 a1_4) := (blk_cell BK178.out 4).trans rfl; have hfz48_0 := blk_frozen BK178.out 0; have hfz48_1 := blk_frozen BK178.out 1; have hfz48_2 := blk_frozen BK178.out 2; have hfz48_3 := blk_frozen BK178.out 3; have hfz48_4 := blk_frozen BK178.out 4))
        go_ret
        exact ⟨by first | rfl | (simp [errW_none, errW_some] <;> rfl) | (simp [*, errW_none, errW_some] <;> rfl), by repeat (first | (with_reducible first | exact HB.out | apply below_alloc | apply pw_below_drewN | apply below_drew1 | refine below_set ?_ GE178.out) | exact HB.out)⟩

/-! ### rollbookref06_Right: function 26 -/
mutual
def rollbookref06_Right.j0 : Nat → Bool → List (S35) → Bool → Option (Bool)
  | 0, _, _, _ => none
  | k + 1, x0, x1, x12 => if x12 = true then (some false) else (rollbookref06_Right.l0 k x0 x1 0)
def rollbookref06_Right.l0 : Nat → Bool → List (S35) → Int → Option (Bool)
  | 0, _, _, _ => none
  | k + 1, x0, x1, x5 => if x5 < (x1.length : Int) then (if 0 ≤ x5 then ((rollbookref06_Cell.f k x0 ((rd_T35 x1 x5).f0) ((rd_T35 x1 x5).f1) ((rd_T35 x1 x5).f2) ((rd_T35 x1 x5).f3) ((rd_T35 x1 x5).f4)).bind fun t181 => (if t181 = true then (if x5 > 0 then (if 0 ≤ (wrap64 (x5 - 1)) then (if (wrap64 (x5 - 1)) < (x1.length : Int) then ((rollbookref01_Less.f k ((rd_T35 x1 (wrap64 (x5 - 1))).f0) ((rd_T35 x1 x5).f0)).bind fun t184 => (if t184 ≥ 0 then (some false) else (rollbookref06_Right.l0 k x0 x1 (wrap64 (x5 + 1))))) else (none)) else (none)) else (rollbookref06_Right.l0 k x0 x1 (wrap64 (x5 + 1)))) else (some false))) else (none)) else (if x0 = true then (some true) else (if 0 < (x1.length : Int) then (some (((rd_T35 x1 0).f0).toList == ([] : List UInt8))) else (none)))
end
def rollbookref06_Right.f (k : Nat) (a0 : Bool) (l1 : List (S35)) : Option (Bool) := if a0 = true then (rollbookref06_Right.j0 k a0 l1 false) else (rollbookref06_Right.j0 k a0 l1 ((l1.length : Int) == 0))
theorem rollbookref06_Right.mono_l : ∀ k, (∀ y0 y1 y2, LeO (rollbookref06_Right.j0 k y0 y1 y2) (rollbookref06_Right.j0 (k + 1) y0 y1 y2)) ∧ (∀ y0 y1 y2, LeO (rollbookref06_Right.l0 k y0 y1 y2) (rollbookref06_Right.l0 (k + 1) y0 y1 y2))
  | 0 => ⟨fun _ _ _ r h => by simp [rollbookref06_Right.j0] at h, fun _ _ _ r h => by simp [rollbookref06_Right.l0] at h⟩
  | k + 1 => by
    obtain ⟨ih0, ih1⟩ := rollbookref06_Right.mono_l k
    refine ⟨?_, ?_⟩
    · intro y0 y1 y2
      unfold rollbookref06_Right.j0
      repeat' first
      | (with_reducible exact ih0 _ _ _)
      | (with_reducible exact ih1 _ _ _)
      | (with_reducible exact rollbookref01_Less.mono _ _ _)
      | (with_reducible exact rollbookref06_Cell.mono _ _ _ _ _ _ _)
      | (with_reducible exact LeO.refl _)
      | (with_reducible exact LeO.none _)
      | (with_reducible refine LeO.ite ?_ ?_)
      | (with_reducible refine LeO.bind ?_ (fun _ => ?_))
      | exact ih0 _ _ _
      | exact ih1 _ _ _
      | exact rollbookref01_Less.mono _ _ _
      | exact rollbookref06_Cell.mono _ _ _ _ _ _ _
      | exact LeO.none _
      | refine LeO.ite ?_ ?_
      | refine LeO.bind ?_ (fun _ => ?_)
    · intro y0 y1 y2
      unfold rollbookref06_Right.l0
      repeat' first
      | (with_reducible exact ih0 _ _ _)
      | (with_reducible exact ih1 _ _ _)
      | (with_reducible exact rollbookref01_Less.mono _ _ _)
      | (with_reducible exact rollbookref06_Cell.mono _ _ _ _ _ _ _)
      | (with_reducible exact LeO.refl _)
      | (with_reducible exact LeO.none _)
      | (with_reducible refine LeO.ite ?_ ?_)
      | (with_reducible refine LeO.bind ?_ (fun _ => ?_))
      | exact ih0 _ _ _
      | exact ih1 _ _ _
      | exact rollbookref01_Less.mono _ _ _
      | exact rollbookref06_Cell.mono _ _ _ _ _ _ _
      | exact LeO.none _
      | refine LeO.ite ?_ ?_
      | refine LeO.bind ?_ (fun _ => ?_)
theorem rollbookref06_Right.mono : ∀ a0 a1 k, LeO (rollbookref06_Right.f k a0 a1) (rollbookref06_Right.f (k + 1) a0 a1) := by
  intro a0 a1 k
  obtain ⟨ih0, ih1⟩ := rollbookref06_Right.mono_l k
  unfold rollbookref06_Right.f
  repeat' first
      | (with_reducible exact ih0 _ _ _)
      | (with_reducible exact ih1 _ _ _)
      | (with_reducible exact rollbookref01_Less.mono _ _ _)
      | (with_reducible exact rollbookref06_Cell.mono _ _ _ _ _ _ _)
      | (with_reducible exact LeO.refl _)
      | (with_reducible exact LeO.none _)
      | (with_reducible refine LeO.ite ?_ ?_)
      | (with_reducible refine LeO.bind ?_ (fun _ => ?_))
      | exact ih0 _ _ _
      | exact ih1 _ _ _
      | exact rollbookref01_Less.mono _ _ _
      | exact rollbookref06_Cell.mono _ _ _ _ _ _ _
      | exact LeO.none _
      | refine LeO.ite ?_ ?_
      | refine LeO.bind ?_ (fun _ => ?_)
set_option maxHeartbeats 8000000 in
set_option maxRecDepth 100000 in
theorem rollbookref06_Right.calls (k : Nat) (a0 : Bool) (A1 : Option Addr) (c1 : Nat) (l1 : List (S35)) (r : Bool) (w : World) (hr1 : Kd.C k35 w A1 l1.length l1) (hc1 : l1.length ≤ c1) (h : rollbookref06_Right.f k a0 l1 = some r) :
    Calls Try.prog 26 #[.bool a0, .slice A1 l1.length c1] w fun e w' => e = .returned (.bool r) ∧ Below w.heap.size w w' := by
  have hu35 := Try.underlying35
  have HR1 := Aside0.mk hr1
  have HC1 := Aside0.mk hc1
  clear hr1 hc1
  have HB := Aside0.mk (Below.refl w.heap.size w)
  have H : (if a0 = true then (rollbookref06_Right.j0 k a0 l1 false) else (rollbookref06_Right.j0 k a0 l1 ((l1.length : Int) == 0))) = some r := h
  clear h
  have HC3 := Aside0.mk H
  clear H
  go_enter Try.func26, Try.ntmps26
  go_upto_region 1 with (fail)
  repeat (go_quiet (fail); go_upto_region 1 with (fail))
  go_cut [12] (fun v12 wc => ∃ (kq : Nat) (x12_2 : Bool), v12 = .bool x12_2 ∧ Aside0 (rollbookref06_Right.j0 kq a0 l1 x12_2 = some r) ∧ Aside0 (kq ≤ k) ∧ Aside0 (Below w.heap.size w wc))
  case first =>
    have H := HC3.out
    clear HC3
    by_cases c4 : a0 = true
    · subst c4
      have H1 : (rollbookref06_Right.j0 k true l1 false) = some r := by rw [if_pos rfl] at H; exact H
      clear H
      have H := H1
      clear H1
      have H' := Aside0.mk H
      clear H
      go_wp2
      repeat (go_quiet (fail); try go_wp2)
      go_meet
      case rel => exact ⟨_, (false), (by first | rfl | (simp; done) | (simp [*]; done)), H', ⟨by first | omega | exact Nat.le_refl _⟩, ⟨by repeat (first | (with_reducible first | exact HB.out | apply below_alloc | apply pw_below_drewN | apply below_drew1) | exact HB.out)⟩⟩
    · replace c4 := Bool.eq_false_iff.mpr c4
      subst c4
      have H1 : (rollbookref06_Right.j0 k false l1 ((l1.length : Int) == 0)) = some r := by rw [if_neg (show ¬ (false = true) by decide)] at H; exact H
      clear H
      have H := H1
      clear H1
      have H' := Aside0.mk H
      clear H
      go_wp2
      repeat (go_quiet (fail); try go_wp2)
      go_meet
      case rel => exact ⟨_, (((l1.length : Int) == 0)), (by first | rfl | (simp; done) | (simp [*]; done)), H', ⟨by first | omega | exact Nat.le_refl _⟩, ⟨by repeat (first | (with_reducible first | exact HB.out | apply below_alloc | apply pw_below_drewN | apply below_drew1) | exact HB.out)⟩⟩
  case rest =>
    clear HC3
    try clear c1
    try clear c2
    try clear p2
    try clear c4
    obtain ⟨kq, x12_2, rfl, HA, HJ2, HB⟩ := hcut
    cases kq with
    | zero => exact absurd HA.out (by simp [rollbookref06_Right.j0])
    | succ kj2 =>
      have H := HA.out
      clear HA
      simp only [rollbookref06_Right.j0] at H
      by_cases c5 : x12_2 = true
      · subst c5
        have H1 : (some false) = some r := by rw [if_pos rfl] at H; exact H
        clear H
        have H := H1
        clear H1
        obtain rfl := Option.some.inj H
        go_wp2
        repeat (go_quiet (fail); try go_wp2)
        go_ret
        exact ⟨by first | rfl | (simp [errW_none, errW_some] <;> rfl) | (simp [*, errW_none, errW_some] <;> rfl), by repeat (first | (with_reducible first | exact HB.out | apply below_alloc | apply pw_below_drewN | apply below_drew1) | exact HB.out)⟩
      · replace c5 := Bool.eq_false_iff.mpr c5
        subst c5
        have H1 : (rollbookref06_Right.l0 kj2 a0 l1 0) = some r := by rw [if_neg (show ¬ (false = true) by decide)] at H; exact H
        clear H
        have H := H1
        clear H1
        have H' := Aside0.mk H
        clear H
        go_wp2
        repeat (go_quiet (fail); try go_wp2)
        go_loopg [5] kj2 (fun kq v5 w' => ∃ (x5_2 : Int), v5 = .int .i64 x5_2 ∧ Aside0 (rollbookref06_Right.l0 kq a0 l1 x5_2 = some r) ∧ Aside0 (kq ≤ kj2) ∧ Aside0 (Below w.heap.size w w'))
        case atStart => exact ⟨(0), (by first | rfl | (simp; done) | (simp [*]; done)), H', ⟨Nat.le_refl _⟩, ⟨by repeat (first | (with_reducible first | exact HB.out | apply below_alloc | apply pw_below_drewN | apply below_drew1) | exact HB.out)⟩⟩
        case round =>
          clear H'
          try clear c1
          try clear c2
          try clear p2
          try clear c4
          try clear c5
          try clear p2
          obtain ⟨x5_2, rfl, HA, HK2, HB⟩ := hrel
          cases gk with
          | zero => exact absurd HA.out (by simp [rollbookref06_Right.l0])
          | succ k2 =>
            have H := HA.out
            clear HA
            simp only [rollbookref06_Right.l0] at H
            by_cases c6 : x5_2 < (l1.length : Int)
            · rw [if_pos c6] at H
              have c6b0 : decide (x5_2 < (l1.length : Int)) = true := decide_eq_true c6
              clear c6
              by_cases c7 : 0 ≤ x5_2
              · rw [if_pos c7] at H
                have c7b0 : decide (0 ≤ x5_2) = true := decide_eq_true c7
                clear c7
                replace H := Option.bind_eq_some_iff.mp H
                obtain ⟨t181, A80, H⟩ := H
                replace H : (if t181 = true then (if x5_2 > 0 then (if 0 ≤ (wrap64 (x5_2 - 1)) then (if (wrap64 (x5_2 - 1)) < (l1.length : Int) then ((rollbookref01_Less.f k2 ((rd_T35 l1 (wrap64 (x5_2 - 1))).f0) ((rd_T35 l1 x5_2).f0)).bind fun t184 => (if t184 ≥ 0 then (some false) else (rollbookref06_Right.l0 k2 a0 l1 (wrap64 (x5_2 + 1))))) else (none)) else (none)) else (rollbookref06_Right.l0 k2 a0 l1 (wrap64 (x5_2 + 1)))) else (some false)) = some r := H
                have A8 := Aside0.mk A80
                clear A80
                by_cases c9 : t181 = true
                · subst c9
                  have H1 : (if x5_2 > 0 then (if 0 ≤ (wrap64 (x5_2 - 1)) then (if (wrap64 (x5_2 - 1)) < (l1.length : Int) then ((rollbookref01_Less.f k2 ((rd_T35 l1 (wrap64 (x5_2 - 1))).f0) ((rd_T35 l1 x5_2).f0)).bind fun t184 => (if t184 ≥ 0 then (some false) else (rollbookref06_Right.l0 k2 a0 l1 (wrap64 (x5_2 + 1))))) else (none)) else (none)) else (rollbookref06_Right.l0 k2 a0 l1 (wrap64 (x5_2 + 1)))) = some r := by rw [if_pos rfl] at H; exact H
                  clear H
                  have H := H1
                  clear H1
                  by_cases c10 : x5_2 > 0
                  · rw [if_pos c10] at H
                    have c10b0 : decide (0 < x5_2) = true := decide_eq_true c10
                    clear c10
                    obtain ⟨ji11, hji11⟩ : ∃ j_ : Int, (wrap64 (x5_2 - 1)) = j_ := ⟨_, rfl⟩
                    replace H : (if 0 ≤ (ji11) then (if (ji11) < (l1.length : Int) then ((rollbookref01_Less.f k2 ((rd_T35 l1 (ji11)).f0) ((rd_T35 l1 x5_2).f0)).bind fun t184 => (if t184 ≥ 0 then (some false) else (rollbookref06_Right.l0 k2 a0 l1 (wrap64 (x5_2 + 1))))) else (none)) else (none)) = some r := by first | (rw [hji11] at H; exact H) | (simp only [hji11] at H ⊢; exact H)
                    (try rw [hji11] at A8)
                    have hji11w : (IntKind.i64.wrap (x5_2 - 1)) = ji11 := (i64_w _).trans hji11
                    by_cases c12 : 0 ≤ (ji11)
                    · rw [if_pos c12] at H
                      have c12b0 : decide (0 ≤ (ji11)) = true := decide_eq_true c12
                      clear c12
                      by_cases c13 : (ji11) < (l1.length : Int)
                      · rw [if_pos c13] at H
                        have c13b0 : decide ((ji11) < (l1.length : Int)) = true := decide_eq_true c13
                        clear c13
                        replace H := Option.bind_eq_some_iff.mp H
                        obtain ⟨t184, A140, H⟩ := H
                        replace H : (if t184 ≥ 0 then (some false) else (rollbookref06_Right.l0 k2 a0 l1 (wrap64 (x5_2 + 1)))) = some r := H
                        have A14 := Aside0.mk A140
                        clear A140
                        by_cases c15 : t184 ≥ 0
                        · rw [if_pos c15] at H
                          have c15b0 : decide (0 ≤ t184) = true := decide_eq_true c15
                          clear c15
                          obtain rfl := Option.some.inj H
                          have p180 : 0 ≤ (x5_2 : Int) := of_decide_eq_true (by first | (with_reducible assumption) | assumption)
                          have q180 : x5_2 < (l1.length : Int) := of_decide_eq_true (by first | (with_reducible assumption) | assumption)
                          obtain ⟨ad180, e180, hx180_0, hx180_1, hx180_2, hx180_3, hx180_4⟩ := at_T35 HR1.out x5_2 p180 q180
                          cases e180
                          replace hx180_0 := (HB.out.cell (World.block_lt_of_cell? w _ hx180_0)).trans hx180_0
                          replace hx180_1 := (HB.out.cell (World.block_lt_of_cell? w _ hx180_1)).trans hx180_1
                          replace hx180_2 := (HB.out.cell (World.block_lt_of_cell? w _ hx180_2)).trans hx180_2
                          replace hx180_3 := (HB.out.cell (World.block_lt_of_cell? w _ hx180_3)).trans hx180_3
                          replace hx180_4 := (HB.out.cell (World.block_lt_of_cell? w _ hx180_4)).trans hx180_4
                          replace p180 := eq_true p180
                          replace q180 := eq_true q180
                          go_wp2_with (first | (go_at_call 92; (with_reducible refine (rollbookref06_Cell.calls k2 a0 ((rd_T35 l1 x5_2).f0) ((rd_T35 l1 x5_2).f1) ((rd_T35 l1 x5_2).f2) ((rd_T35 l1 x5_2).f3) ((rd_T35 l1 x5_2).f4) true _ A8.out).mono ?_); rintro e w16 ⟨rfl, hb⟩; have n0_ := Aside0.mk (below_step (by repeat (first | (with_reducible first | exact HB.out | apply below_alloc | apply pw_below_drewN | apply below_drew1) | exact HB.out)) hb); clear HB; have HB := n0_; clear n0_; (try clear hb); (try clear hb2); (try clear hk); (try clear hi); have p182 : 0 ≤ ((ji11) : Int) := of_decide_eq_true (by first | (with_reducible assumption) | assumption); have q182 : (ji11) < (l1.length : Int) := of_decide_eq_true (by first | (with_reducible assumption) | assumption); obtain ⟨ad182, e182, hx182_0, hx182_1, hx182_2, hx182_3, hx182_4⟩ := at_T35 HR1.out (ji11) p182 q182; obtain rfl : ad180 = ad182 := (by injection e182); replace hx182_0 := (HB.out.cell (World.block_lt_of_cell? w _ hx182_0)).trans hx182_0; replace hx182_1 := (HB.out.cell (World.block_lt_of_cell? w _ hx182_1)).trans hx182_1; replace hx182_2 := (HB.out.cell (World.block_lt_of_cell? w _ hx182_2)).trans hx182_2; replace hx182_3 := (HB.out.cell (World.block_lt_of_cell? w _ hx182_3)).trans hx182_3; replace hx182_4 := (HB.out.cell (World.block_lt_of_cell? w _ hx182_4)).trans hx182_4; replace p182 := eq_true p182; replace q182 := eq_true q182; have p183 : 0 ≤ (x5_2 : Int) := of_decide_eq_true (by first | (with_reducible assumption) | assumption); have q183 : x5_2 < (l1.length : Int) := of_decide_eq_true (by first | (with_reducible assumption) | assumption); obtain ⟨ad183, e183, hx183_0, hx183_1, hx183_2, hx183_3, hx183_4⟩ := at_T35 HR1.out x5_2 p183 q183; obtain rfl : ad180 = ad183 := (by injection e183); replace hx183_0 := (HB.out.cell (World.block_lt_of_cell? w _ hx183_0)).trans hx183_0; replace hx183_1 := (HB.out.cell (World.block_lt_of_cell? w _ hx183_1)).trans hx183_1; replace hx183_2 := (HB.out.cell (World.block_lt_of_cell? w _ hx183_2)).trans hx183_2; replace hx183_3 := (HB.out.cell (World.block_lt_of_cell? w _ hx183_3)).trans hx183_3; replace hx183_4 := (HB.out.cell (World.block_lt_of_cell? w _ hx183_4)).trans hx183_4; replace p183 := eq_true p183; replace q183 := eq_true q183) | (go_at_call 30; (with_reducible refine (rollbookref01_Less.calls k2 ((rd_T35 l1 (ji11)).f0) ((rd_T35 l1 x5_2).f0) t184 _ A14.out).mono ?_); rintro e w' ⟨rfl, ⟨nd, rfl⟩⟩; (try first | exact ⟨rfl, _, World.drewN_drewN _ _ _⟩ | exact ⟨rfl, _, Eq.trans (World.drewN_drewN _ _ _) (congrArg (World.drewN _) (Nat.add_assoc _ _ _))⟩)))
                          repeat (go_quiet (first | (go_at_call 92; (with_reducible refine (rollbookref06_Cell.calls k2 a0 ((rd_T35 l1 x5_2).f0) ((rd_T35 l1 x5_2).f1) ((rd_T35 l1 x5_2).f2) ((rd_T35 l1 x5_2).f3) ((rd_T35 l1 x5_2).f4) true _ A8.out).mono ?_); rintro e w16 ⟨rfl, hb⟩; have n0_ := Aside0.mk (below_step (by repeat (first | (with_reducible first | exact HB.out | apply below_alloc | apply pw_below_drewN | apply below_drew1) | exact HB.out)) hb); clear HB; have HB := n0_; clear n0_; (try clear hb); (try clear hb2); (try clear hk); (try clear hi); have p182 : 0 ≤ ((ji11) : Int) := of_decide_eq_true (by first | (with_reducible assumption) | assumption); have q182 : (ji11) < (l1.length : Int) := of_decide_eq_true (by first | (with_reducible assumption) | assumption); obtain ⟨ad182, e182, hx182_0, hx182_1, hx182_2, hx182_3, hx182_4⟩ := at_T35 HR1.out (ji11) p182 q182; obtain rfl : ad180 = ad182 := (by injection e182); replace hx182_0 := (HB.out.cell (World.block_lt_of_cell? w _ hx182_0)).trans hx182_0; replace hx182_1 := (HB.out.cell (World.block_lt_of_cell? w _ hx182_1)).trans hx182_1; replace hx182_2 := (HB.out.cell (World.block_lt_of_cell? w _ hx182_2)).trans hx182_2; replace hx182_3 := (HB.out.cell (World.block_lt_of_cell? w _ hx182_3)).trans hx182_3; replace hx182_4 := (HB.out.cell (World.block_lt_of_cell? w _ hx182_4)).trans hx182_4; replace p182 := eq_true p182; replace q182 := eq_true q182; have p183 : 0 ≤ (x5_2 : Int) := of_decide_eq_true (by first | (with_reducible assumption) | assumption); have q183 : x5_2 < (l1.length : Int) := of_decide_eq_true (by first | (with_reducible assumption) | assumption); obtain ⟨ad183, e183, hx183_0, hx183_1, hx183_2, hx183_3, hx183_4⟩ := at_T35 HR1.out x5_2 p183 q183; obtain rfl : ad180 = ad183 := (by injection e183); replace hx183_0 := (HB.out.cell (World.block_lt_of_cell? w _ hx183_0)).trans hx183_0; replace hx183_1 := (HB.out.cell (World.block_lt_of_cell? w _ hx183_1)).trans hx183_1; replace hx183_2 := (HB.out.cell (World.block_lt_of_cell? w _ hx183_2)).trans hx183_2; replace hx183_3 := (HB.out.cell (World.block_lt_of_cell? w _ hx183_3)).trans hx183_3; replace hx183_4 := (HB.out.cell (World.block_lt_of_cell? w _ hx183_4)).trans hx183_4; replace p183 := eq_true p183; replace q183 := eq_true q183) | (go_at_call 30; (with_reducible refine (rollbookref01_Less.calls k2 ((rd_T35 l1 (ji11)).f0) ((rd_T35 l1 x5_2).f0) t184 _ A14.out).mono ?_); rintro e w' ⟨rfl, ⟨nd, rfl⟩⟩; (try first | exact ⟨rfl, _, World.drewN_drewN _ _ _⟩ | exact ⟨rfl, _, Eq.trans (World.drewN_drewN _ _ _) (congrArg (World.drewN _) (Nat.add_assoc _ _ _))⟩))); try go_wp2_with (first | (go_at_call 92; (with_reducible refine (rollbookref06_Cell.calls k2 a0 ((rd_T35 l1 x5_2).f0) ((rd_T35 l1 x5_2).f1) ((rd_T35 l1 x5_2).f2) ((rd_T35 l1 x5_2).f3) ((rd_T35 l1 x5_2).f4) true _ A8.out).mono ?_); rintro e w16 ⟨rfl, hb⟩; have n0_ := Aside0.mk (below_step (by repeat (first | (with_reducible first | exact HB.out | apply below_alloc | apply pw_below_drewN | apply below_drew1) | exact HB.out)) hb); clear HB; have HB := n0_; clear n0_; (try clear hb); (try clear hb2); (try clear hk); (try clear hi); have p182 : 0 ≤ ((ji11) : Int) := of_decide_eq_true (by first | (with_reducible assumption) | assumption); have q182 : (ji11) < (l1.length : Int) := of_decide_eq_true (by first | (with_reducible assumption) | assumption); obtain ⟨ad182, e182, hx182_0, hx182_1, hx182_2, hx182_3, hx182_4⟩ := at_T35 HR1.out (ji11) p182 q182; obtain rfl : ad180 = ad182 := (by injection e182); replace hx182_0 := (HB.out.cell (World.block_lt_of_cell? w _ hx182_0)).trans hx182_0; replace hx182_1 := (HB.out.cell (World.block_lt_of_cell? w _ hx182_1)).trans hx182_1; replace hx182_2 := (HB.out.cell (World.block_lt_of_cell? w _ hx182_2)).trans hx182_2; replace hx182_3 := (HB.out.cell (World.block_lt_of_cell? w _ hx182_3)).trans hx182_3; replace hx182_4 := (HB.out.cell (World.block_lt_of_cell? w _ hx182_4)).trans hx182_4; replace p182 := eq_true p182; replace q182 := eq_true q182; have p183 : 0 ≤ (x5_2 : Int) := of_decide_eq_true (by first | (with_reducible assumption) | assumption); have q183 : x5_2 < (l1.length : Int) := of_decide_eq_true (by first | (with_reducible assumption) | assumption); obtain ⟨ad183, e183, hx183_0, hx183_1, hx183_2, hx183_3, hx183_4⟩ := at_T35 HR1.out x5_2 p183 q183; obtain rfl : ad180 = ad183 := (by injection e183); replace hx183_0 := (HB.out.cell (World.block_lt_of_cell? w _ hx183_0)).trans hx183_0; replace hx183_1 := (HB.out.cell (World.block_lt_of_cell? w _ hx183_1)).trans hx183_1; replace hx183_2 := (HB.out.cell (World.block_lt_of_cell? w _ hx183_2)).trans hx183_2; replace hx183_3 := (HB.out.cell (World.block_lt_of_cell? w _ hx183_3)).trans hx183_3; replace hx183_4 := (HB.out.cell (World.block_lt_of_cell? w _ hx183_4)).trans hx183_4; replace p183 := eq_true p183; replace q183 := eq_true q183) | (go_at_call 30; (with_reducible refine (rollbookref01_Less.calls k2 ((rd_T35 l1 (ji11)).f0) ((rd_T35 l1 x5_2).f0) t184 _ A14.out).mono ?_); rintro e w' ⟨rfl, ⟨nd, rfl⟩⟩; (try first | exact ⟨rfl, _, World.drewN_drewN _ _ _⟩ | exact ⟨rfl, _, Eq.trans (World.drewN_drewN _ _ _) (congrArg (World.drewN _) (Nat.add_assoc _ _ _))⟩))))
                          go_ret
                          exact ⟨by first | rfl | (simp [errW_none, errW_some] <;> rfl) | (simp only [← hji11]; first | rfl | (simp [errW_none, errW_some] <;> rfl)) | (simp [*, errW_none, errW_some] <;> rfl), by repeat (first | (with_reducible first | exact HB.out | apply below_alloc | apply pw_below_drewN | apply below_drew1) | exact HB.out)⟩
                        · rw [if_neg c15] at H
                          have c15b0 : decide (0 ≤ t184) = false := decide_eq_false c15
                          clear c15
                          have H' := Aside0.mk H
                          clear H
                          have p180 : 0 ≤ (x5_2 : Int) := of_decide_eq_true (by first | (with_reducible assumption) | assumption)
                          have q180 : x5_2 < (l1.length : Int) := of_decide_eq_true (by first | (with_reducible assumption) | assumption)
                          obtain ⟨ad180, e180, hx180_0, hx180_1, hx180_2, hx180_3, hx180_4⟩ := at_T35 HR1.out x5_2 p180 q180
                          cases e180
                          replace hx180_0 := (HB.out.cell (World.block_lt_of_cell? w _ hx180_0)).trans hx180_0
                          replace hx180_1 := (HB.out.cell (World.block_lt_of_cell? w _ hx180_1)).trans hx180_1
                          replace hx180_2 := (HB.out.cell (World.block_lt_of_cell? w _ hx180_2)).trans hx180_2
                          replace hx180_3 := (HB.out.cell (World.block_lt_of_cell? w _ hx180_3)).trans hx180_3
                          replace hx180_4 := (HB.out.cell (World.block_lt_of_cell? w _ hx180_4)).trans hx180_4
                          replace p180 := eq_true p180
                          replace q180 := eq_true q180
                          go_wp2_with (first | (go_at_call 92; (with_reducible refine (rollbookref06_Cell.calls k2 a0 ((rd_T35 l1 x5_2).f0) ((rd_T35 l1 x5_2).f1) ((rd_T35 l1 x5_2).f2) ((rd_T35 l1 x5_2).f3) ((rd_T35 l1 x5_2).f4) true _ A8.out).mono ?_); rintro e w17 ⟨rfl, hb⟩; have n0_ := Aside0.mk (below_step (by repeat (first | (with_reducible first | exact HB.out | apply below_alloc | apply pw_below_drewN | apply below_drew1) | exact HB.out)) hb); clear HB; have HB := n0_; clear n0_; (try clear hb); (try clear hb2); (try clear hk); (try clear hi); have p182 : 0 ≤ ((ji11) : Int) := of_decide_eq_true (by first | (with_reducible assumption) | assumption); have q182 : (ji11) < (l1.length : Int) := of_decide_eq_true (by first | (with_reducible assumption) | assumption); obtain ⟨ad182, e182, hx182_0, hx182_1, hx182_2, hx182_3, hx182_4⟩ := at_T35 HR1.out (ji11) p182 q182; obtain rfl : ad180 = ad182 := (by injection e182); replace hx182_0 := (HB.out.cell (World.block_lt_of_cell? w _ hx182_0)).trans hx182_0; replace hx182_1 := (HB.out.cell (World.block_lt_of_cell? w _ hx182_1)).trans hx182_1; replace hx182_2 := (HB.out.cell (World.block_lt_of_cell? w _ hx182_2)).trans hx182_2; replace hx182_3 := (HB.out.cell (World.block_lt_of_cell? w _ hx182_3)).trans hx182_3; replace hx182_4 := (HB.out.cell (World.block_lt_of_cell? w _ hx182_4)).trans hx182_4; replace p182 := eq_true p182; replace q182 := eq_true q182; have p183 : 0 ≤ (x5_2 : Int) := of_decide_eq_true (by first | (with_reducible assumption) | assumption); have q183 : x5_2 < (l1.length : Int) := of_decide_eq_true (by first | (with_reducible assumption) | assumption); obtain ⟨ad183, e183, hx183_0, hx183_1, hx183_2, hx183_3, hx183_4⟩ := at_T35 HR1.out x5_2 p183 q183; obtain rfl : ad180 = ad183 := (by injection e183); replace hx183_0 := (HB.out.cell (World.block_lt_of_cell? w _ hx183_0)).trans hx183_0; replace hx183_1 := (HB.out.cell (World.block_lt_of_cell? w _ hx183_1)).trans hx183_1; replace hx183_2 := (HB.out.cell (World.block_lt_of_cell? w _ hx183_2)).trans hx183_2; replace hx183_3 := (HB.out.cell (World.block_lt_of_cell? w _ hx183_3)).trans hx183_3; replace hx183_4 := (HB.out.cell (World.block_lt_of_cell? w _ hx183_4)).trans hx183_4; replace p183 := eq_true p183; replace q183 := eq_true q183) | (go_at_call 30; (with_reducible refine (rollbookref01_Less.calls k2 ((rd_T35 l1 (ji11)).f0) ((rd_T35 l1 x5_2).f0) t184 _ A14.out).mono ?_); rintro e w' ⟨rfl, ⟨nd, rfl⟩⟩; (try first | exact ⟨rfl, _, World.drewN_drewN _ _ _⟩ | exact ⟨rfl, _, Eq.trans (World.drewN_drewN _ _ _) (congrArg (World.drewN _) (Nat.add_assoc _ _ _))⟩)))
                          repeat (go_quiet (first | (go_at_call 92; (with_reducible refine (rollbookref06_Cell.calls k2 a0 ((rd_T35 l1 x5_2).f0) ((rd_T35 l1 x5_2).f1) ((rd_T35 l1 x5_2).f2) ((rd_T35 l1 x5_2).f3) ((rd_T35 l1 x5_2).f4) true _ A8.out).mono ?_); rintro e w17 ⟨rfl, hb⟩; have n0_ := Aside0.mk (below_step (by repeat (first | (with_reducible first | exact HB.out | apply below_alloc | apply pw_below_drewN | apply below_drew1) | exact HB.out)) hb); clear HB; have HB := n0_; clear n0_; (try clear hb); (try clear hb2); (try clear hk); (try clear hi); have p182 : 0 ≤ ((ji11) : Int) := of_decide_eq_true (by first | (with_reducible assumption) | assumption); have q182 : (ji11) < (l1.length : Int) := of_decide_eq_true (by first | (with_reducible assumption) | assumption); obtain ⟨ad182, e182, hx182_0, hx182_1, hx182_2, hx182_3, hx182_4⟩ := at_T35 HR1.out (ji11) p182 q182; obtain rfl : ad180 = ad182 := (by injection e182); replace hx182_0 := (HB.out.cell (World.block_lt_of_cell? w _ hx182_0)).trans hx182_0; replace hx182_1 := (HB.out.cell (World.block_lt_of_cell? w _ hx182_1)).trans hx182_1; replace hx182_2 := (HB.out.cell (World.block_lt_of_cell? w _ hx182_2)).trans hx182_2; replace hx182_3 := (HB.out.cell (World.block_lt_of_cell? w _ hx182_3)).trans hx182_3; replace hx182_4 := (HB.out.cell (World.block_lt_of_cell? w _ hx182_4)).trans hx182_4; replace p182 := eq_true p182; replace q182 := eq_true q182; have p183 : 0 ≤ (x5_2 : Int) := of_decide_eq_true (by first | (with_reducible assumption) | assumption); have q183 : x5_2 < (l1.length : Int) := of_decide_eq_true (by first | (with_reducible assumption) | assumption); obtain ⟨ad183, e183, hx183_0, hx183_1, hx183_2, hx183_3, hx183_4⟩ := at_T35 HR1.out x5_2 p183 q183; obtain rfl : ad180 = ad183 := (by injection e183); replace hx183_0 := (HB.out.cell (World.block_lt_of_cell? w _ hx183_0)).trans hx183_0; replace hx183_1 := (HB.out.cell (World.block_lt_of_cell? w _ hx183_1)).trans hx183_1; replace hx183_2 := (HB.out.cell (World.block_lt_of_cell? w _ hx183_2)).trans hx183_2; replace hx183_3 := (HB.out.cell (World.block_lt_of_cell? w _ hx183_3)).trans hx183_3; replace hx183_4 := (HB.out.cell (World.block_lt_of_cell? w _ hx183_4)).trans hx183_4; replace p183 := eq_true p183; replace q183 := eq_true q183) | (go_at_call 30; (with_reducible refine (rollbookref01_Less.calls k2 ((rd_T35 l1 (ji11)).f0) ((rd_T35 l1 x5_2).f0) t184 _ A14.out).mono ?_); rintro e w' ⟨rfl, ⟨nd, rfl⟩⟩; (try first | exact ⟨rfl, _, World.drewN_drewN _ _ _⟩ | exact ⟨rfl, _, Eq.trans (World.drewN_drewN _ _ _) (congrArg (World.drewN _) (Nat.add_assoc _ _ _))⟩))); try go_wp2_with (first | (go_at_call 92; (with_reducible refine (rollbookref06_Cell.calls k2 a0 ((rd_T35 l1 x5_2).f0) ((rd_T35 l1 x5_2).f1) ((rd_T35 l1 x5_2).f2) ((rd_T35 l1 x5_2).f3) ((rd_T35 l1 x5_2).f4) true _ A8.out).mono ?_); rintro e w17 ⟨rfl, hb⟩; have n0_ := Aside0.mk (below_step (by repeat (first | (with_reducible first | exact HB.out | apply below_alloc | apply pw_below_drewN | apply below_drew1) | exact HB.out)) hb); clear HB; have HB := n0_; clear n0_; (try clear hb); (try clear hb2); (try clear hk); (try clear hi); have p182 : 0 ≤ ((ji11) : Int) := of_decide_eq_true (by first | (with_reducible assumption) | assumption); have q182 : (ji11) < (l1.length : Int) := of_decide_eq_true (by first | (with_reducible assumption) | assumption); obtain ⟨ad182, e182, hx182_0, hx182_1, hx182_2, hx182_3, hx182_4⟩ := at_T35 HR1.out (ji11) p182 q182; obtain rfl : ad180 = ad182 := (by injection e182); replace hx182_0 := (HB.out.cell (World.block_lt_of_cell? w _ hx182_0)).trans hx182_0; replace hx182_1 := (HB.out.cell (World.block_lt_of_cell? w _ hx182_1)).trans hx182_1; replace hx182_2 := (HB.out.cell (World.block_lt_of_cell? w _ hx182_2)).trans hx182_2; replace hx182_3 := (HB.out.cell (World.block_lt_of_cell? w _ hx182_3)).trans hx182_3; replace hx182_4 := (HB.out.cell (World.block_lt_of_cell? w _ hx182_4)).trans hx182_4; replace p182 := eq_true p182; replace q182 := eq_true q182; have p183 : 0 ≤ (x5_2 : Int) := of_decide_eq_true (by first | (with_reducible assumption) | assumption); have q183 : x5_2 < (l1.length : Int) := of_decide_eq_true (by first | (with_reducible assumption) | assumption); obtain ⟨ad183, e183, hx183_0, hx183_1, hx183_2, hx183_3, hx183_4⟩ := at_T35 HR1.out x5_2 p183 q183; obtain rfl : ad180 = ad183 := (by injection e183); replace hx183_0 := (HB.out.cell (World.block_lt_of_cell? w _ hx183_0)).trans hx183_0; replace hx183_1 := (HB.out.cell (World.block_lt_of_cell? w _ hx183_1)).trans hx183_1; replace hx183_2 := (HB.out.cell (World.block_lt_of_cell? w _ hx183_2)).trans hx183_2; replace hx183_3 := (HB.out.cell (World.block_lt_of_cell? w _ hx183_3)).trans hx183_3; replace hx183_4 := (HB.out.cell (World.block_lt_of_cell? w _ hx183_4)).trans hx183_4; replace p183 := eq_true p183; replace q183 := eq_true q183) | (go_at_call 30; (with_reducible refine (rollbookref01_Less.calls k2 ((rd_T35 l1 (ji11)).f0) ((rd_T35 l1 x5_2).f0) t184 _ A14.out).mono ?_); rintro e w' ⟨rfl, ⟨nd, rfl⟩⟩; (try first | exact ⟨rfl, _, World.drewN_drewN _ _ _⟩ | exact ⟨rfl, _, Eq.trans (World.drewN_drewN _ _ _) (congrArg (World.drewN _) (Nat.add_assoc _ _ _))⟩))))
                          go_roundg k2
                          case measure => have := HJ2.out; have := HK2.out; omega
                          case rel => exact ⟨(wrap64 (x5_2 + 1)), (by first | rfl | (simp; done) | (simp [*]; done)), H', ⟨by have := HJ2.out; have := HK2.out; omega⟩, ⟨by repeat (first | (with_reducible first | exact HB.out | apply below_alloc | apply pw_below_drewN | apply below_drew1) | exact HB.out)⟩⟩
                      · rw [if_neg c13] at H
                        exact absurd H (by simp)
                    · rw [if_neg c12] at H
                      exact absurd H (by simp)
                  · rw [if_neg c10] at H
                    have c10b0 : decide (0 < x5_2) = false := decide_eq_false c10
                    clear c10
                    have H' := Aside0.mk H
                    clear H
                    have p180 : 0 ≤ (x5_2 : Int) := of_decide_eq_true (by first | (with_reducible assumption) | assumption)
                    have q180 : x5_2 < (l1.length : Int) := of_decide_eq_true (by first | (with_reducible assumption) | assumption)
                    obtain ⟨ad180, e180, hx180_0, hx180_1, hx180_2, hx180_3, hx180_4⟩ := at_T35 HR1.out x5_2 p180 q180
                    cases e180
                    replace hx180_0 := (HB.out.cell (World.block_lt_of_cell? w _ hx180_0)).trans hx180_0
                    replace hx180_1 := (HB.out.cell (World.block_lt_of_cell? w _ hx180_1)).trans hx180_1
                    replace hx180_2 := (HB.out.cell (World.block_lt_of_cell? w _ hx180_2)).trans hx180_2
                    replace hx180_3 := (HB.out.cell (World.block_lt_of_cell? w _ hx180_3)).trans hx180_3
                    replace hx180_4 := (HB.out.cell (World.block_lt_of_cell? w _ hx180_4)).trans hx180_4
                    replace p180 := eq_true p180
                    replace q180 := eq_true q180
                    go_wp2_with (first | (go_at_call 92; (with_reducible refine (rollbookref06_Cell.calls k2 a0 ((rd_T35 l1 x5_2).f0) ((rd_T35 l1 x5_2).f1) ((rd_T35 l1 x5_2).f2) ((rd_T35 l1 x5_2).f3) ((rd_T35 l1 x5_2).f4) true _ A8.out).mono ?_); rintro e w18 ⟨rfl, hb⟩; have n0_ := Aside0.mk (below_step (by repeat (first | (with_reducible first | exact HB.out | apply below_alloc | apply pw_below_drewN | apply below_drew1) | exact HB.out)) hb); clear HB; have HB := n0_; clear n0_; (try clear hb); (try clear hb2); (try clear hk); (try clear hi)))
                    repeat (go_quiet (first | (go_at_call 92; (with_reducible refine (rollbookref06_Cell.calls k2 a0 ((rd_T35 l1 x5_2).f0) ((rd_T35 l1 x5_2).f1) ((rd_T35 l1 x5_2).f2) ((rd_T35 l1 x5_2).f3) ((rd_T35 l1 x5_2).f4) true _ A8.out).mono ?_); rintro e w18 ⟨rfl, hb⟩; have n0_ := Aside0.mk (below_step (by repeat (first | (with_reducible first | exact HB.out | apply below_alloc | apply pw_below_drewN | apply below_drew1) | exact HB.out)) hb); clear HB; have HB := n0_; clear n0_; (try clear hb); (try clear hb2); (try clear hk); (try clear hi))); try go_wp2_with (first | (go_at_call 92; (with_reducible refine (rollbookref06_Cell.calls k2 a0 ((rd_T35 l1 x5_2).f0) ((rd_T35 l1 x5_2).f1) ((rd_T35 l1 x5_2).f2) ((rd_T35 l1 x5_2).f3) ((rd_T35 l1 x5_2).f4) true _ A8.out).mono ?_); rintro e w18 ⟨rfl, hb⟩; have n0_ := Aside0.mk (below_step (by repeat (first | (with_reducible first | exact HB.out | apply below_alloc | apply pw_below_drewN | apply below_drew1) | exact HB.out)) hb); clear HB; have HB := n0_; clear n0_; (try clear hb); (try clear hb2); (try clear hk); (try clear hi))))
                    go_roundg k2
                    case measure => have := HJ2.out; have := HK2.out; omega
                    case rel => exact ⟨(wrap64 (x5_2 + 1)), (by first | rfl | (simp; done) | (simp [*]; done)), H', ⟨by have := HJ2.out; have := HK2.out; omega⟩, ⟨by repeat (first | (with_reducible first | exact HB.out | apply below_alloc | apply pw_below_drewN | apply below_drew1) | exact HB.out)⟩⟩
                · replace c9 := Bool.eq_false_iff.mpr c9
                  subst c9
                  have H1 : (some false) = some r := by rw [if_neg (show ¬ (false = true) by decide)] at H; exact H
                  clear H
                  have H := H1
                  clear H1
                  obtain rfl := Option.some.inj H
                  have p180 : 0 ≤ (x5_2 : Int) := of_decide_eq_true (by first | (with_reducible assumption) | assumption)
                  have q180 : x5_2 < (l1.length : Int) := of_decide_eq_true (by first | (with_reducible assumption) | assumption)
                  obtain ⟨ad180, e180, hx180_0, hx180_1, hx180_2, hx180_3, hx180_4⟩ := at_T35 HR1.out x5_2 p180 q180
                  cases e180
                  replace hx180_0 := (HB.out.cell (World.block_lt_of_cell? w _ hx180_0)).trans hx180_0
                  replace hx180_1 := (HB.out.cell (World.block_lt_of_cell? w _ hx180_1)).trans hx180_1
                  replace hx180_2 := (HB.out.cell (World.block_lt_of_cell? w _ hx180_2)).trans hx180_2
                  replace hx180_3 := (HB.out.cell (World.block_lt_of_cell? w _ hx180_3)).trans hx180_3
                  replace hx180_4 := (HB.out.cell (World.block_lt_of_cell? w _ hx180_4)).trans hx180_4
                  replace p180 := eq_true p180
                  replace q180 := eq_true q180
                  go_wp2_with (first | (go_at_call 92; (with_reducible refine (rollbookref06_Cell.calls k2 a0 ((rd_T35 l1 x5_2).f0) ((rd_T35 l1 x5_2).f1) ((rd_T35 l1 x5_2).f2) ((rd_T35 l1 x5_2).f3) ((rd_T35 l1 x5_2).f4) false _ A8.out).mono ?_); rintro e w19 ⟨rfl, hb⟩; have n0_ := Aside0.mk (below_step (by repeat (first | (with_reducible first | exact HB.out | apply below_alloc | apply pw_below_drewN | apply below_drew1) | exact HB.out)) hb); clear HB; have HB := n0_; clear n0_; (try clear hb); (try clear hb2); (try clear hk); (try clear hi)))
                  repeat (go_quiet (first | (go_at_call 92; (with_reducible refine (rollbookref06_Cell.calls k2 a0 ((rd_T35 l1 x5_2).f0) ((rd_T35 l1 x5_2).f1) ((rd_T35 l1 x5_2).f2) ((rd_T35 l1 x5_2).f3) ((rd_T35 l1 x5_2).f4) false _ A8.out).mono ?_); rintro e w19 ⟨rfl, hb⟩; have n0_ := Aside0.mk (below_step (by repeat (first | (with_reducible first | exact HB.out | apply below_alloc | apply pw_below_drewN | apply below_drew1) | exact HB.out)) hb); clear HB; have HB := n0_; clear n0_; (try clear hb); (try clear hb2); (try clear hk); (try clear hi))); try go_wp2_with (first | (go_at_call 92; (with_reducible refine (rollbookref06_Cell.calls k2 a0 ((rd_T35 l1 x5_2).f0) ((rd_T35 l1 x5_2).f1) ((rd_T35 l1 x5_2).f2) ((rd_T35 l1 x5_2).f3) ((rd_T35 l1 x5_2).f4) false _ A8.out).mono ?_); rintro e w19 ⟨rfl, hb⟩; have n0_ := Aside0.mk (below_step (by repeat (first | (with_reducible first | exact HB.out | apply below_alloc | apply pw_below_drewN | apply below_drew1) | exact HB.out)) hb); clear HB; have HB := n0_; clear n0_; (try clear hb); (try clear hb2); (try clear hk); (try clear hi))))
                  go_ret
                  exact ⟨by first | rfl | (simp [errW_none, errW_some] <;> rfl) | (simp [*, errW_none, errW_some] <;> rfl), by repeat (first | (with_reducible first | exact HB.out | apply below_alloc | apply pw_below_drewN | apply below_drew1) | exact HB.out)⟩
              · rw [if_neg c7] at H
                exact absurd H (by simp)
            · rw [if_neg c6] at H
              have c6b0 : decide (x5_2 < (l1.length : Int)) = false := decide_eq_false c6
              clear c6
              by_cases c20 : a0 = true
              · subst c20
                have H1 : (some true) = some r := by rw [if_pos rfl] at H; exact H
                clear H
                have H := H1
                clear H1
                obtain rfl := Option.some.inj H
                go_wp2
                repeat (go_quiet (fail); try go_wp2)
                go_ret
                exact ⟨by first | rfl | (simp [errW_none, errW_some] <;> rfl) | (simp [*, errW_none, errW_some] <;> rfl), by repeat (first | (with_reducible first | exact HB.out | apply below_alloc | apply pw_below_drewN | apply below_drew1) | exact HB.out)⟩
              · replace c20 := Bool.eq_false_iff.mpr c20
                subst c20
                have H1 : (if 0 < (l1.length : Int) then (some (((rd_T35 l1 0).f0).toList == ([] : List UInt8))) else (none)) = some r := by rw [if_neg (show ¬ (false = true) by decide)] at H; exact H
                clear H
                have H := H1
                clear H1
                by_cases c21 : 0 < (l1.length : Int)
                · rw [if_pos c21] at H
                  have c21b0 : decide (0 < (l1.length : Int)) = true := decide_eq_true c21
                  have c21b1 : decide (0 < l1.length) = true := decide_eq_true (by omega)
                  clear c21
                  obtain rfl := Option.some.inj H
                  have p179 : 0 ≤ (0 : Int) := (by omega)
                  have q179 : 0 < (l1.length : Int) := of_decide_eq_true (by first | (with_reducible assumption) | assumption)
                  obtain ⟨ad179, e179, hx179_0, hx179_1, hx179_2, hx179_3, hx179_4⟩ := at_T35 HR1.out 0 p179 q179
                  cases e179
                  have qi179 : (0 < l1.length) = True := eq_true (by omega)
                  (try rw [show ((0 : Int)).toNat = 0 from rfl] at hx179_0)
                  (try rw [show 0 * 5 = 0 from rfl] at hx179_0)
                  (try rw [Addr.add_zero'] at hx179_0)
                  (try rw [show ((0 : Int)).toNat = 0 from rfl] at hx179_1)
                  (try rw [show 0 * 5 = 0 from rfl] at hx179_1)
                  (try rw [Addr.add_zero'] at hx179_1)
                  (try rw [show ((0 : Int)).toNat = 0 from rfl] at hx179_2)
                  (try rw [show 0 * 5 = 0 from rfl] at hx179_2)
                  (try rw [Addr.add_zero'] at hx179_2)
                  (try rw [show ((0 : Int)).toNat = 0 from rfl] at hx179_3)
                  (try rw [show 0 * 5 = 0 from rfl] at hx179_3)
                  (try rw [Addr.add_zero'] at hx179_3)
                  (try rw [show ((0 : Int)).toNat = 0 from rfl] at hx179_4)
                  (try rw [show 0 * 5 = 0 from rfl] at hx179_4)
                  (try rw [Addr.add_zero'] at hx179_4)
                  replace hx179_0 := (HB.out.cell (World.block_lt_of_cell? w _ hx179_0)).trans hx179_0
                  replace hx179_1 := (HB.out.cell (World.block_lt_of_cell? w _ hx179_1)).trans hx179_1
                  replace hx179_2 := (HB.out.cell (World.block_lt_of_cell? w _ hx179_2)).trans hx179_2
                  replace hx179_3 := (HB.out.cell (World.block_lt_of_cell? w _ hx179_3)).trans hx179_3
                  replace hx179_4 := (HB.out.cell (World.block_lt_of_cell? w _ hx179_4)).trans hx179_4
                  replace p179 := eq_true p179
                  replace q179 := eq_true q179
                  go_wp2
                  repeat (go_quiet (fail); try go_wp2)
                  go_ret
                  exact ⟨by first | rfl | (simp [errW_none, errW_some] <;> rfl) | (simp [*, errW_none, errW_some] <;> rfl), by repeat (first | (with_reducible first | exact HB.out | apply below_alloc | apply pw_below_drewN | apply below_drew1) | exact HB.out)⟩
                · rw [if_neg c21] at H
                  exact absurd H (by simp)

/-! ### rollbookref06_Long: function 126 -/
def rollbookref06_Long.f (a0 : Bool) (a1_0 : ByteArray) (a1_1 : ByteArray) (a1_2 : Int) (a1_3 : Int) (a1_4 : Int) : Option (Int) := if a0 = true then (if a1_2 > 0 then (some (wrap64 ((wrap64 (2 + (a1_0.size : Int))) + 9))) else (some (wrap64 ((wrap64 ((wrap64 (2 + (a1_0.size : Int))) + 3)) + (a1_1.size : Int))))) else (some (wrap64 ((wrap64 (2 + (a1_0.size : Int))) + 4)))
set_option maxHeartbeats 8000000 in
set_option maxRecDepth 100000 in
theorem rollbookref06_Long.calls (a0 : Bool) (a1_0 : ByteArray) (a1_1 : ByteArray) (a1_2 : Int) (a1_3 : Int) (a1_4 : Int) (r : Int) (w : World) (h : rollbookref06_Long.f a0 a1_0 a1_1 a1_2 a1_3 a1_4 = some r) :
    Calls Try.prog 126 #[.bool a0, .agg #[.string a1_0, .string a1_1, .int .i64 a1_2, .int .i64 a1_3, .int .i64 a1_4]] w fun e w' => e = .returned (.int .i64 r) ∧ Below w.heap.size w w' := by
  have hu35 := Try.underlying35
  have HB := Aside0.mk (Below.refl w.heap.size w)
  have H : (if a0 = true then (if a1_2 > 0 then (some (wrap64 ((wrap64 (2 + (a1_0.size : Int))) + 9))) else (some (wrap64 ((wrap64 ((wrap64 (2 + (a1_0.size : Int))) + 3)) + (a1_1.size : Int))))) else (some (wrap64 ((wrap64 (2 + (a1_0.size : Int))) + 4)))) = some r := h
  clear h
  by_cases c3 : a0 = true
  · subst c3
    have H1 : (if a1_2 > 0 then (some (wrap64 ((wrap64 (2 + (a1_0.size : Int))) + 9))) else (some (wrap64 ((wrap64 ((wrap64 (2 + (a1_0.size : Int))) + 3)) + (a1_1.size : Int))))) = some r := by rw [if_pos rfl] at H; exact H
    clear H
    have H := H1
    clear H1
    by_cases c4 : a1_2 > 0
    · rw [if_pos c4] at H
      have c4b0 : decide (0 < a1_2) = true := decide_eq_true c4
      clear c4
      obtain rfl := Option.some.inj H
      go_enter Try.func126, Try.ntmps126
      go_wp2_with (first | ((with_reducible refine gate_dst (N := 3) rfl ?_); refine box_event ?hg (N := 3) ?hd (cs := #[.string a1_0, .string a1_1, .int .i64 a1_2, .int .i64 a1_3, .int .i64 a1_4]) (t := 35) ?hr ?_; (case hd => rfl); (case hg => rfl); (case hr => first | (go_simp; done) | (go_simp; rfl)); intro gb185 hg w5 hbox hb; have n0_ := Aside0.mk (below_step (by repeat (first | (with_reducible first | exact HB.out | apply below_alloc | apply pw_below_drewN | apply below_drew1) | exact HB.out)) hb); have n1_ := Aside0.mk (hbox); have n2_ := Aside0.mk ((by rw [hg]; exact (below_size (by repeat (first | (with_reducible first | exact HB.out | apply below_alloc | apply pw_below_drewN | apply below_drew1) | exact HB.out))) : w.heap.size ≤ gb185)); have n3_ := Aside0.mk ((by rw [hg]; exact (below_size (by repeat (first | (with_reducible first | exact HB.out | apply below_alloc | apply pw_below_drewN | apply below_drew1) | exact HB.out))) : w.heap.size ≤ gb185)); clear HB; have HB := n0_; have BK185 := n1_; have GW185 := n2_; have GE185 := n3_; clear n0_ n1_ n2_ n3_; clear hb hbox hg; have hcz6_0 : w5.cell? ⟨gb185, 0, none⟩ = some (.string a1_0) := (blk_cell BK185.out 0).trans rfl; have hcz6_1 : w5.cell? ⟨gb185, 1, none⟩ = some (.string a1_1) := (blk_cell BK185.out 1).trans rfl; have hcz6_2 : w5.cell? ⟨gb185, 2, none⟩ = some (.int .i64 a1_2) := (blk_cell BK185.out 2).trans rfl; have hcz6_3 : w5.cell? ⟨gb185, 3, none⟩ = some (.int .i64 a1_3) := (blk_cell BK185.out 3).trans rfl; have hcz6_4 : w5.cell? ⟨gb185, 4, none⟩ = some (.int .i64 a1_4) := (blk_cell BK185.out 4).trans rfl; have hfz6_0 := blk_frozen BK185.out 0; have hfz6_1 := blk_frozen BK185.out 1; have hfz6_2 := blk_frozen BK185.out 2; have hfz6_3 := blk_frozen BK185.out 3; have hfz6_4 := blk_frozen BK185.out 4))
      go_ret
      exact ⟨by first | rfl | (simp [errW_none, errW_some] <;> rfl) | (simp [*, errW_none, errW_some] <;> rfl), by repeat (first | (with_reducible first | exact HB.out | apply below_alloc | apply pw_below_drewN | apply below_drew1 | refine below_set ?_ GE185.out) | exact HB.out)⟩
    · rw [if_neg c4] at H
      have c4b0 : decide (0 < a1_2) = false := decide_eq_false c4
      clear c4
      obtain rfl := Option.some.inj H
      go_enter Try.func126, Try.ntmps126
      go_wp2_with (first | ((with_reducible refine gate_dst (N := 3) rfl ?_); refine box_event ?hg (N := 3) ?hd (cs := #[.string a1_0, .string a1_1, .int .i64 a1_2, .int .i64 a1_3, .int .i64 a1_4]) (t := 35) ?hr ?_; (case hd => rfl); (case hg => rfl); (case hr => first | (go_simp; done) | (go_simp; rfl)); intro gb185 hg w7 hbox hb; have n0_ := Aside0.mk (below_step (by repeat (first | (with_reducible first | exact HB.out | apply below_alloc | apply pw_below_drewN | apply below_drew1) | exact HB.out)) hb); have n1_ := Aside0.mk (hbox); have n2_ := Aside0.mk ((by rw [hg]; exact (below_size (by repeat (first | (with_reducible first | exact HB.out | apply below_alloc | apply pw_below_drewN | apply below_drew1) | exact HB.out))) : w.heap.size ≤ gb185)); have n3_ := Aside0.mk ((by rw [hg]; exact (below_size (by repeat (first | (with_reducible first | exact HB.out | apply below_alloc | apply pw_below_drewN | apply below_drew1) | exact HB.out))) : w.heap.size ≤ gb185)); clear HB; have HB := n0_; have BK185 := n1_; have GW185 := n2_; have GE185 := n3_; clear n0_ n1_ n2_ n3_; clear hb hbox hg; have hcz8_0 : w7.cell? ⟨gb185, 0, none⟩ = some (.string a1_0) := (blk_cell BK185.out 0).trans rfl; have hcz8_1 : w7.cell? ⟨gb185, 1, none⟩ = some (.string a1_1) := (blk_cell BK185.out 1).trans rfl; have hcz8_2 : w7.cell? ⟨gb185, 2, none⟩ = some (.int .i64 a1_2) := (blk_cell BK185.out 2).trans rfl; have hcz8_3 : w7.cell? ⟨gb185, 3, none⟩ = some (.int .i64 a1_3) := (blk_cell BK185.out 3).trans rfl; have hcz8_4 : w7.cell? ⟨gb185, 4, none⟩ = some (.int .i64 a1_4) := (blk_cell BK185.out 4).trans rfl; have hfz8_0 := blk_frozen BK185.out 0; have hfz8_1 := blk_frozen BK185.out 1; have hfz8_2 := blk_frozen BK185.out 2; have hfz8_3 := blk_frozen BK185.out 3; have hfz8_4 := blk_frozen BK185.out 4))
      go_ret
      exact ⟨by first | rfl | (simp [errW_none, errW_some] <;> rfl) | (simp [*, errW_none, errW_some] <;> rfl), by repeat (first | (with_reducible first | exact HB.out | apply below_alloc | apply pw_below_drewN | apply below_drew1 | refine below_set ?_ GE185.out) | exact HB.out)⟩
  · replace c3 := Bool.eq_false_iff.mpr c3
    subst c3
    have H1 : (some (wrap64 ((wrap64 (2 + (a1_0.size : Int))) + 4))) = some r := by rw [if_neg (show ¬ (false = true) by decide)] at H; exact H
    clear H
    have H := H1
    clear H1
    obtain rfl := Option.some.inj H
    go_enter Try.func126, Try.ntmps126
    go_wp2_with (first | ((with_reducible refine gate_dst (N := 3) rfl ?_); refine box_event ?hg (N := 3) ?hd (cs := #[.string a1_0, .string a1_1, .int .i64 a1_2, .int .i64 a1_3, .int .i64 a1_4]) (t := 35) ?hr ?_; (case hd => rfl); (case hg => rfl); (case hr => first | (go_simp; done) | (go_simp; rfl)); intro gb185 hg w9 hbox hb; have n0_ := Aside0.mk (below_step (by repeat (first | (with_reducible first | exact HB.out | apply below_alloc | apply pw_below_drewN | apply below_drew1) | exact HB.out)) hb); have n1_ := Aside0.mk (hbox); have n2_ := Aside0.mk ((by rw [hg]; exact (below_size (by repeat (first | (with_reducible first | exact HB.out | apply below_alloc | apply pw_below_drewN | apply below_drew1) | exact HB.out))) : w.heap.size ≤ gb185)); have n3_ := Aside0.mk ((by rw [hg]; exact (below_size (by repeat (first | (with_reducible first | exact HB.out | apply below_alloc | apply pw_below_drewN | apply below_drew1) | exact HB.out))) : w.heap.size ≤ gb185)); clear HB; have HB := n0_; have BK185 := n1_; have GW185 := n2_; have GE185 := n3_; clear n0_ n1_ n2_ n3_; clear hb hbox hg; have hcz10_0 : w9.cell? ⟨gb185, 0, none⟩ = some (.string a1_0) := (blk_cell BK185.out 0).trans rfl; have hcz10_1 : w9.cell? ⟨gb185, 1, none⟩ = some (.string a1_1) := (blk_cell BK185.out 1).trans rfl; have hcz10_2 : w9.cell? ⟨gb185, 2, none⟩ = some (.int .i64 a1_2) := (blk_cell BK185.out 2).trans rfl; have hcz10_3 : w9.cell? ⟨gb185, 3, none⟩ = some (.int .i64 a1_3) := (blk_cell BK185.out 3).trans rfl; have hcz10_4 : w9.cell? ⟨gb185, 4, none⟩ = some (.int .i64 a1_4) := (blk_cell BK185.out 4).trans rfl; have hfz10_0 := blk_frozen BK185.out 0; have hfz10_1 := blk_frozen BK185.out 1; have hfz10_2 := blk_frozen BK185.out 2; have hfz10_3 := blk_frozen BK185.out 3; have hfz10_4 := blk_frozen BK185.out 4))
    go_ret
    exact ⟨by first | rfl | (simp [errW_none, errW_some] <;> rfl) | (simp [*, errW_none, errW_some] <;> rfl), by repeat (first | (with_reducible first | exact HB.out | apply below_alloc | apply pw_below_drewN | apply below_drew1 | refine below_set ?_ GE185.out) | exact HB.out)⟩

/-! ### rollbookref06_Count: function 87 -/
def rollbookref06_Count.l0 : Nat → Bool → List (S35) → Int → Int → Option (Int)
  | 0, _, _, _, _ => none
  | k + 1, x0, x1, x5, x6 => if x6 < (x1.length : Int) then (if 0 ≤ x6 then ((rollbookref06_Long.f x0 ((rd_T35 x1 x6).f0) ((rd_T35 x1 x6).f1) ((rd_T35 x1 x6).f2) ((rd_T35 x1 x6).f3) ((rd_T35 x1 x6).f4)).bind fun t187 => (rollbookref06_Count.l0 k x0 x1 (wrap64 ((wrap64 (x5 + 2)) + t187)) (wrap64 (x6 + 1)))) else (none)) else (some x5)
def rollbookref06_Count.f (k : Nat) (a0 : Bool) (l1 : List (S35)) : Option (Int) := rollbookref06_Count.l0 k a0 l1 2 0
theorem rollbookref06_Count.mono_l : ∀ k, (∀ y0 y1 y2 y3, LeO (rollbookref06_Count.l0 k y0 y1 y2 y3) (rollbookref06_Count.l0 (k + 1) y0 y1 y2 y3))
  | 0 => fun _ _ _ _ r h => by simp [rollbookref06_Count.l0] at h
  | k + 1 => by
    have ih0 := rollbookref06_Count.mono_l k
    · intro y0 y1 y2 y3
      unfold rollbookref06_Count.l0
      repeat' first
      | (with_reducible exact ih0 _ _ _ _)
      | (with_reducible exact LeO.refl _)
      | (with_reducible exact LeO.none _)
      | (with_reducible refine LeO.ite ?_ ?_)
      | (with_reducible refine LeO.bind ?_ (fun _ => ?_))
      | exact ih0 _ _ _ _
      | exact LeO.none _
      | refine LeO.ite ?_ ?_
      | refine LeO.bind ?_ (fun _ => ?_)
theorem rollbookref06_Count.mono : ∀ a0 a1 k, LeO (rollbookref06_Count.f k a0 a1) (rollbookref06_Count.f (k + 1) a0 a1) := by
  intro a0 a1 k
  have ih0 := rollbookref06_Count.mono_l k
  unfold rollbookref06_Count.f
  repeat' first
      | (with_reducible exact ih0 _ _ _ _)
      | (with_reducible exact LeO.refl _)
      | (with_reducible exact LeO.none _)
      | (with_reducible refine LeO.ite ?_ ?_)
      | (with_reducible refine LeO.bind ?_ (fun _ => ?_))
      | exact ih0 _ _ _ _
      | exact LeO.none _
      | refine LeO.ite ?_ ?_
      | refine LeO.bind ?_ (fun _ => ?_)
set_option maxHeartbeats 8000000 in
set_option maxRecDepth 100000 in
theorem rollbookref06_Count.calls (k : Nat) (a0 : Bool) (A1 : Option Addr) (c1 : Nat) (l1 : List (S35)) (r : Int) (w : World) (hr1 : Kd.C k35 w A1 l1.length l1) (hc1 : l1.length ≤ c1) (h : rollbookref06_Count.f k a0 l1 = some r) :
    Calls Try.prog 87 #[.bool a0, .slice A1 l1.length c1] w fun e w' => e = .returned (.int .i64 r) ∧ Below w.heap.size w w' := by
  have hu35 := Try.underlying35
  have HR1 := Aside0.mk hr1
  have HC1 := Aside0.mk hc1
  clear hr1 hc1
  have HB := Aside0.mk (Below.refl w.heap.size w)
  have H : (rollbookref06_Count.l0 k a0 l1 2 0) = some r := h
  clear h
  have H' := Aside0.mk H
  clear H
  go_enter Try.func87, Try.ntmps87
  go_wp2
  go_loopg [5, 6] k (fun kq v5 v6 w' => ∃ (x5_1 : Int) (x6_1 : Int), v5 = .int .i64 x5_1 ∧ v6 = .int .i64 x6_1 ∧ Aside0 (rollbookref06_Count.l0 kq a0 l1 x5_1 x6_1 = some r) ∧ Aside0 (kq ≤ k) ∧ Aside0 (Below w.heap.size w w'))
  case atStart => exact ⟨(2), (0), (by first | rfl | (simp; done) | (simp [*]; done)), (by first | rfl | (simp; done) | (simp [*]; done)), H', ⟨Nat.le_refl _⟩, ⟨by repeat (first | (with_reducible first | exact HB.out | apply below_alloc | apply pw_below_drewN | apply below_drew1) | exact HB.out)⟩⟩
  case round =>
    clear H'
    try clear c1
    try clear p2
    obtain ⟨x5_1, x6_1, rfl, rfl, HA, HK1, HB⟩ := hrel
    cases gk with
    | zero => exact absurd HA.out (by simp [rollbookref06_Count.l0])
    | succ k1 =>
      have H := HA.out
      clear HA
      simp only [rollbookref06_Count.l0] at H
      by_cases c3 : x6_1 < (l1.length : Int)
      · rw [if_pos c3] at H
        have c3b0 : decide (x6_1 < (l1.length : Int)) = true := decide_eq_true c3
        clear c3
        by_cases c4 : 0 ≤ x6_1
        · rw [if_pos c4] at H
          have c4b0 : decide (0 ≤ x6_1) = true := decide_eq_true c4
          clear c4
          replace H := Option.bind_eq_some_iff.mp H
          obtain ⟨t187, A50, H⟩ := H
          replace H : (rollbookref06_Count.l0 k1 a0 l1 (wrap64 ((wrap64 (x5_1 + 2)) + t187)) (wrap64 (x6_1 + 1))) = some r := H
          have A5 := Aside0.mk A50
          clear A50
          have H' := Aside0.mk H
          clear H
          have p186 : 0 ≤ (x6_1 : Int) := of_decide_eq_true (by first | (with_reducible assumption) | assumption)
          have q186 : x6_1 < (l1.length : Int) := of_decide_eq_true (by first | (with_reducible assumption) | assumption)
          obtain ⟨ad186, e186, hx186_0, hx186_1, hx186_2, hx186_3, hx186_4⟩ := at_T35 HR1.out x6_1 p186 q186
          cases e186
          replace hx186_0 := (HB.out.cell (World.block_lt_of_cell? w _ hx186_0)).trans hx186_0
          replace hx186_1 := (HB.out.cell (World.block_lt_of_cell? w _ hx186_1)).trans hx186_1
          replace hx186_2 := (HB.out.cell (World.block_lt_of_cell? w _ hx186_2)).trans hx186_2
          replace hx186_3 := (HB.out.cell (World.block_lt_of_cell? w _ hx186_3)).trans hx186_3
          replace hx186_4 := (HB.out.cell (World.block_lt_of_cell? w _ hx186_4)).trans hx186_4
          replace p186 := eq_true p186
          replace q186 := eq_true q186
          go_wp2_with (first | ((with_reducible refine gate_callee (f := 126) rfl ?_); refine goesL_ (some 20) rfl rfl Try.func126 (by kernel_rfl) rfl #[.bool a0, .agg #[.string ((rd_T35 l1 x6_1).f0), .string ((rd_T35 l1 x6_1).f1), .int .i64 ((rd_T35 l1 x6_1).f2), .int .i64 ((rd_T35 l1 x6_1).f3), .int .i64 ((rd_T35 l1 x6_1).f4)]] rfl (by (try simp only [List.map_toArray, List.map_cons, List.map_nil]); first | done | rfl | (simp only [List.length_drop, List.length_take]; rfl)) ?_; (with_reducible refine (rollbookref06_Long.calls a0 ((rd_T35 l1 x6_1).f0) ((rd_T35 l1 x6_1).f1) ((rd_T35 l1 x6_1).f2) ((rd_T35 l1 x6_1).f3) ((rd_T35 l1 x6_1).f4) t187 _ A5.out).mono ?_); rintro e w6 ⟨rfl, hb⟩; refine ⟨_, rfl, ?_⟩; have n0_ := Aside0.mk (below_step (by repeat (first | (with_reducible first | exact HB.out | apply below_alloc | apply pw_below_drewN | apply below_drew1) | exact HB.out)) hb); clear HB; have HB := n0_; clear n0_; (try clear hb); (try clear hb2); (try clear hk); (try clear hi)))
          go_roundg k1
          case measure => have := HK1.out; omega
          case rel => exact ⟨(wrap64 ((wrap64 (x5_1 + 2)) + t187)), (wrap64 (x6_1 + 1)), (by first | rfl | (simp; done) | (simp [*]; done)), (by first | rfl | (simp; done) | (simp [*]; done)), H', ⟨by have := HK1.out; omega⟩, ⟨by repeat (first | (with_reducible first | exact HB.out | apply below_alloc | apply pw_below_drewN | apply below_drew1) | exact HB.out)⟩⟩
        · rw [if_neg c4] at H
          exact absurd H (by simp)
      · rw [if_neg c3] at H
        have c3b0 : decide (x6_1 < (l1.length : Int)) = false := decide_eq_false c3
        clear c3
        obtain rfl := Option.some.inj H
        go_wp2
        go_ret
        exact ⟨by first | rfl | (simp [errW_none, errW_some] <;> rfl) | (simp [*, errW_none, errW_some] <;> rfl), by repeat (first | (with_reducible first | exact HB.out | apply below_alloc | apply pw_below_drewN | apply below_drew1) | exact HB.out)⟩

/-! ### rollbookref01_Put: function 127 -/
mutual
def rollbookref01_Put.j0 : Nat → ByteArray → Int → Int → Bool → Option (ByteArray × Int)
  | 0, _, _, _, _ => none
  | k + 1, x0, x1, x2, x17 => if x17 = true then (some ((⟨#[]⟩ : ByteArray), 1)) else (rollbookref01_Put.l0 k x0 x1 x2 (([] : List Int)) (wrap64 (x2 - 1)))
def rollbookref01_Put.l0 : Nat → ByteArray → Int → Int → List Int → Int → Option (ByteArray × Int)
  | 0, _, _, _, _, _ => none
  | k + 1, x0, x1, x2, x8, x9 => if x9 ≥ 0 then (rollbookref01_Put.l1 k x0 x1 x2 x8 x9 x1 0) else (if x0.size + (strOfNums x8).size ≤ 9223372036854775807 then (some (x0 ++ (strOfNums x8), 0)) else (none))
def rollbookref01_Put.l1 : Nat → ByteArray → Int → Int → List Int → Int → Int → Int → Option (ByteArray × Int)
  | 0, _, _, _, _, _, _, _ => none
  | k + 1, x0, x1, x2, x8, x9, x10, x11 => if x11 < x9 then (rollbookref01_Put.l1 k x0 x1 x2 x8 x9 (IntKind.u64.wrap (Int.tdiv x10 256)) (wrap64 (x11 + 1))) else (if x9 = (wrap64 (x2 - 1)) then (if x10 > 255 then (some ((⟨#[]⟩ : ByteArray), 1)) else (if x8.length < 140737488355328 then (rollbookref01_Put.l0 k x0 x1 x2 (x8 ++ [(Int.tmod x10 256) % 256]) (wrap64 (x9 - 1))) else (none))) else (if x8.length < 140737488355328 then (rollbookref01_Put.l0 k x0 x1 x2 (x8 ++ [(Int.tmod x10 256) % 256]) (wrap64 (x9 - 1))) else (none)))
end
def rollbookref01_Put.f (k : Nat) (a0 : ByteArray) (a1 : Int) (a2 : Int) : Option (ByteArray × Int) := if a2 < 1 then (rollbookref01_Put.j0 k a0 a1 a2 true) else (rollbookref01_Put.j0 k a0 a1 a2 (decide (a2 > 8)))
theorem rollbookref01_Put.mono_l : ∀ k, (∀ y0 y1 y2 y3, LeO (rollbookref01_Put.j0 k y0 y1 y2 y3) (rollbookref01_Put.j0 (k + 1) y0 y1 y2 y3)) ∧ (∀ y0 y1 y2 y3 y4, LeO (rollbookref01_Put.l0 k y0 y1 y2 y3 y4) (rollbookref01_Put.l0 (k + 1) y0 y1 y2 y3 y4)) ∧ (∀ y0 y1 y2 y3 y4 y5 y6, LeO (rollbookref01_Put.l1 k y0 y1 y2 y3 y4 y5 y6) (rollbookref01_Put.l1 (k + 1) y0 y1 y2 y3 y4 y5 y6))
  | 0 => ⟨fun _ _ _ _ r h => by simp [rollbookref01_Put.j0] at h, fun _ _ _ _ _ r h => by simp [rollbookref01_Put.l0] at h, fun _ _ _ _ _ _ _ r h => by simp [rollbookref01_Put.l1] at h⟩
  | k + 1 => by
    obtain ⟨ih0, ih1, ih2⟩ := rollbookref01_Put.mono_l k
    refine ⟨?_, ?_, ?_⟩
    · intro y0 y1 y2 y3
      unfold rollbookref01_Put.j0
      repeat' first
      | (with_reducible exact ih0 _ _ _ _)
      | (with_reducible exact ih1 _ _ _ _ _)
      | (with_reducible exact ih2 _ _ _ _ _ _ _)
      | (with_reducible exact LeO.refl _)
      | (with_reducible exact LeO.none _)
      | (with_reducible refine LeO.ite ?_ ?_)
      | (with_reducible refine LeO.bind ?_ (fun _ => ?_))
      | exact ih0 _ _ _ _
      | exact ih1 _ _ _ _ _
      | exact ih2 _ _ _ _ _ _ _
      | exact LeO.none _
      | refine LeO.ite ?_ ?_
      | refine LeO.bind ?_ (fun _ => ?_)
    · intro y0 y1 y2 y3 y4
      unfold rollbookref01_Put.l0
      repeat' first
      | (with_reducible exact ih0 _ _ _ _)
      | (with_reducible exact ih1 _ _ _ _ _)
      | (with_reducible exact ih2 _ _ _ _ _ _ _)
      | (with_reducible exact LeO.refl _)
      | (with_reducible exact LeO.none _)
      | (with_reducible refine LeO.ite ?_ ?_)
      | (with_reducible refine LeO.bind ?_ (fun _ => ?_))
      | exact ih0 _ _ _ _
      | exact ih1 _ _ _ _ _
      | exact ih2 _ _ _ _ _ _ _
      | exact LeO.none _
      | refine LeO.ite ?_ ?_
      | refine LeO.bind ?_ (fun _ => ?_)
    · intro y0 y1 y2 y3 y4 y5 y6
      unfold rollbookref01_Put.l1
      repeat' first
      | (with_reducible exact ih0 _ _ _ _)
      | (with_reducible exact ih1 _ _ _ _ _)
      | (with_reducible exact ih2 _ _ _ _ _ _ _)
      | (with_reducible exact LeO.refl _)
      | (with_reducible exact LeO.none _)
      | (with_reducible refine LeO.ite ?_ ?_)
      | (with_reducible refine LeO.bind ?_ (fun _ => ?_))
      | exact ih0 _ _ _ _
      | exact ih1 _ _ _ _ _
      | exact ih2 _ _ _ _ _ _ _
      | exact LeO.none _
      | refine LeO.ite ?_ ?_
      | refine LeO.bind ?_ (fun _ => ?_)
theorem rollbookref01_Put.mono : ∀ a0 a1 a2 k, LeO (rollbookref01_Put.f k a0 a1 a2) (rollbookref01_Put.f (k + 1) a0 a1 a2) := by
  intro a0 a1 a2 k
  obtain ⟨ih0, ih1, ih2⟩ := rollbookref01_Put.mono_l k
  unfold rollbookref01_Put.f
  repeat' first
      | (with_reducible exact ih0 _ _ _ _)
      | (with_reducible exact ih1 _ _ _ _ _)
      | (with_reducible exact ih2 _ _ _ _ _ _ _)
      | (with_reducible exact LeO.refl _)
      | (with_reducible exact LeO.none _)
      | (with_reducible refine LeO.ite ?_ ?_)
      | (with_reducible refine LeO.bind ?_ (fun _ => ?_))
      | exact ih0 _ _ _ _
      | exact ih1 _ _ _ _ _
      | exact ih2 _ _ _ _ _ _ _
      | exact LeO.none _
      | refine LeO.ite ?_ ?_
      | refine LeO.bind ?_ (fun _ => ?_)
set_option maxHeartbeats 8000000 in
set_option maxRecDepth 100000 in
theorem rollbookref01_Put.calls (k : Nat) (a0 : ByteArray) (a1 : Int) (a2 : Int) (r1 : ByteArray) (r2 : Int) (w : World) (h : rollbookref01_Put.f k a0 a1 a2 = some (r1, r2)) :
    Calls Try.prog 127 #[.string a0, .int .u64 a1, .int .i64 a2] w fun e w' => e = .returned (.tuple #[.string r1, .int .i64 r2]) ∧ Below w.heap.size w w' := by
  have HB := Aside0.mk (Below.refl w.heap.size w)
  have H : (if a2 < 1 then (rollbookref01_Put.j0 k a0 a1 a2 true) else (rollbookref01_Put.j0 k a0 a1 a2 (decide (a2 > 8)))) = some (r1, r2) := h
  clear h
  have HC4 := Aside0.mk H
  clear H
  go_enter Try.func127, Try.ntmps127
  go_upto_region 1 with (fail)
  go_cut [17] (fun v17 wc => ∃ (kq : Nat) (x17_3 : Bool), v17 = .bool x17_3 ∧ Aside0 (rollbookref01_Put.j0 kq a0 a1 a2 x17_3 = some (r1, r2)) ∧ Aside0 (kq ≤ k) ∧ Aside0 (Below w.heap.size w wc))
  case first =>
    have H := HC4.out
    clear HC4
    by_cases c5 : a2 < 1
    · rw [if_pos c5] at H
      have c5b0 : decide (a2 < 1) = true := decide_eq_true c5
      clear c5
      (first | rw [c5b0] | (simp only [i64_w, i32_w]; rw [c5b0]) | skip)
      have H' := Aside0.mk H
      clear H
      go_wp2
      go_meet
      case rel => exact ⟨_, (true), (by first | rfl | (simp; done) | (simp [*]; done)), H', ⟨by first | omega | exact Nat.le_refl _⟩, ⟨by repeat (first | (with_reducible first | exact HB.out | apply below_alloc | apply pw_below_drewN | apply below_drew1) | exact HB.out)⟩⟩
    · rw [if_neg c5] at H
      have c5b0 : decide (a2 < 1) = false := decide_eq_false c5
      clear c5
      (first | rw [c5b0] | (simp only [i64_w, i32_w]; rw [c5b0]) | skip)
      have H' := Aside0.mk H
      clear H
      go_wp2
      go_meet
      case rel => exact ⟨_, (decide (a2 > 8)), (by first | rfl | (simp; done) | (simp [*]; done)), H', ⟨by first | omega | exact Nat.le_refl _⟩, ⟨by repeat (first | (with_reducible first | exact HB.out | apply below_alloc | apply pw_below_drewN | apply below_drew1) | exact HB.out)⟩⟩
  case rest =>
    clear HC4
    try clear c1
    try clear p2
    try clear c5
    try clear c5b0
    obtain ⟨kq, x17_3, rfl, HA, HJ3, HB⟩ := hcut
    cases kq with
    | zero => exact absurd HA.out (by simp [rollbookref01_Put.j0])
    | succ kj3 =>
      have H := HA.out
      clear HA
      simp only [rollbookref01_Put.j0] at H
      by_cases c6 : x17_3 = true
      · subst c6
        have H1 : (some ((⟨#[]⟩ : ByteArray), 1)) = some (r1, r2) := by rw [if_pos rfl] at H; exact H
        clear H
        have H := H1
        clear H1
        simp only [Option.some.injEq, Prod.mk.injEq] at H
        obtain ⟨rfl, rfl⟩ := H
        go_wp2
        go_ret2
        exact ⟨by first | rfl | (simp [errW_none, errW_some] <;> rfl) | (simp [*, errW_none, errW_some] <;> rfl), by repeat (first | (with_reducible first | exact HB.out | apply below_alloc | apply pw_below_drewN | apply below_drew1) | exact HB.out)⟩
      · replace c6 := Bool.eq_false_iff.mpr c6
        subst c6
        have H1 : (rollbookref01_Put.l0 kj3 a0 a1 a2 (([] : List Int)) (wrap64 (a2 - 1))) = some (r1, r2) := by rw [if_neg (show ¬ (false = true) by decide)] at H; exact H
        clear H
        have H := H1
        clear H1
        obtain ⟨y188, hy188⟩ : ∃ y_ : List Int, y_ = (([] : List Int)) := ⟨_, rfl⟩
        replace H : (rollbookref01_Put.l0 kj3 a0 a1 a2 y188 (wrap64 (a2 - 1))) = some (r1, r2) := by first | (rw [hy188]; with_reducible exact H) | (have H2_ := (Option.bind_some _ _).symm.trans H; rw [hy188]; with_reducible exact H2_) | (have H2_ := (Option.bind_some _ _).symm.trans H; with_reducible exact H2_) | with_reducible exact H | (rw [hy188]; exact H) | exact H
        have Ny188 := Aside0.mk hy188
        clear hy188
        have H' := Aside0.mk H
        clear H
        go_wp2_with (first | ((with_reducible refine gate_dst (N := 18) rfl ?_); refine Kd.R_lit (Kd.int .u8) _ 5 ?hg (N := 18) ?hd (xs := ([] : List Int)) (inner := []) (ok := fun _ => True) (okp := fun _ => True) ?hr ?hp (fun _ hk => hk) trivial (Below.refl _ _) (Nat.le_refl _) (by simp) ?_; (case hd => rfl); (case hg => rfl); (case hr => first | (go_simp; done) | (go_simp; rfl)); (case hp => exact (Reps.none _ _)); intro v189 w7 ho8 hb hg_ hnew_; clear hg_ hnew_; (first | rw [← Ny188.out] at ho8 | (simp only [Int.reduceToNat] at ho8; rw [← Ny188.out] at ho8)); have n0_ := Aside0.mk (Kd.R_lower ho8 (below_size (by repeat (first | (with_reducible first | exact HB.out | apply below_alloc | apply pw_below_drewN | apply below_drew1) | exact HB.out)))); have n1_ := Aside0.mk (below_step (by repeat (first | (with_reducible first | exact HB.out | apply below_alloc | apply pw_below_drewN | apply below_drew1) | exact HB.out)) hb); clear HB; have HO190 := n0_; have HB := n1_; clear n0_ n1_; clear hb ho8))
        go_loopg [8, 9] kj3 (fun kq v8 v9 w' => ∃ (x8_2 : List Int) (x9_2 : Int), v9 = .int .i64 x9_2 ∧ Aside0 (rollbookref01_Put.l0 kq a0 a1 a2 x8_2 x9_2 = some (r1, r2)) ∧ Aside0 (kq ≤ kj3) ∧ Aside0 (Kd.R (Kd.int .u8) 5 w' w.heap.size (fun _ => True) v8 x8_2) ∧ Aside0 (Below w.heap.size w w'))
        case atStart => exact ⟨(y188), (wrap64 (a2 - 1)), (by first | rfl | (simp; done) | (simp [*]; done)), H', ⟨Nat.le_refl _⟩, ⟨by (with_reducible repeat (first | apply Kd.R_alloc | apply Kd.R_drewN | apply Kd.R_drew)); exact HO190.out⟩, ⟨by repeat (first | (with_reducible first | exact HB.out | apply below_alloc | apply pw_below_drewN | apply below_drew1) | exact HB.out)⟩⟩
        case round =>
          clear H'
          try clear c1
          try clear p2
          try clear c5
          try clear c5b0
          try clear c6
          try clear p6
          try clear p2
          obtain ⟨x8_2, x9_2, rfl, HA, HK2, HO_8, HB⟩ := hrel
          cases gk with
          | zero => exact absurd HA.out (by simp [rollbookref01_Put.l0])
          | succ k2 =>
            have H := HA.out
            clear HA
            simp only [rollbookref01_Put.l0] at H
            by_cases c9 : x9_2 ≥ 0
            · rw [if_pos c9] at H
              have c9b0 : decide (0 ≤ x9_2) = true := decide_eq_true c9
              clear c9
              have H' := Aside0.mk H
              clear H
              go_wp2
              go_loopg [10, 11] k2 (fun kq v10 v11 w' => ∃ (x10_3 : Int) (x11_3 : Int), v10 = .int .u64 x10_3 ∧ v11 = .int .i64 x11_3 ∧ Aside0 (rollbookref01_Put.l1 kq a0 a1 a2 x8_2 x9_2 x10_3 x11_3 = some (r1, r2)) ∧ Aside0 (kq ≤ k2) ∧ Aside0 (Kd.R (Kd.int .u8) 5 w' w.heap.size (fun _ => True) u8 x8_2) ∧ Aside0 (Below w.heap.size w w'))
              case atStart => exact ⟨(a1), (0), (by first | rfl | (simp; done) | (simp [*]; done)), (by first | rfl | (simp; done) | (simp [*]; done)), H', ⟨Nat.le_refl _⟩, ⟨by (with_reducible repeat (first | apply Kd.R_alloc | apply Kd.R_drewN | apply Kd.R_drew)); exact HO_8.out⟩, ⟨by repeat (first | (with_reducible first | exact HB.out | apply below_alloc | apply pw_below_drewN | apply below_drew1) | exact HB.out)⟩⟩
              case round =>
                clear H'
                try clear c1
                try clear p2
                try clear c5
                try clear c5b0
                try clear c6
                try clear p6
                try clear c9
                try clear c9b0
                try clear p2
                try clear p6
                obtain ⟨x10_3, x11_3, rfl, rfl, HA, HK3, HO_8, HB⟩ := hrel
                cases gk with
                | zero => exact absurd HA.out (by simp [rollbookref01_Put.l1])
                | succ k3 =>
                  have H := HA.out
                  clear HA
                  simp only [rollbookref01_Put.l1] at H
                  by_cases c10 : x11_3 < x9_2
                  · rw [if_pos c10] at H
                    have c10b0 : decide (x11_3 < x9_2) = true := decide_eq_true c10
                    clear c10
                    have H' := Aside0.mk H
                    clear H
                    go_wp2
                    go_roundg k3
                    case measure => have := HJ3.out; have := HK2.out; have := HK3.out; omega
                    case rel => exact ⟨(IntKind.u64.wrap (Int.tdiv x10_3 256)), (wrap64 (x11_3 + 1)), (by first | rfl | (simp; done) | (simp [*]; done)), (by first | rfl | (simp; done) | (simp [*]; done)), H', ⟨by have := HJ3.out; have := HK2.out; have := HK3.out; omega⟩, ⟨by (with_reducible repeat (first | apply Kd.R_alloc | apply Kd.R_drewN | apply Kd.R_drew)); exact HO_8.out⟩, ⟨by repeat (first | (with_reducible first | exact HB.out | apply below_alloc | apply pw_below_drewN | apply below_drew1) | exact HB.out)⟩⟩
                  · rw [if_neg c10] at H
                    have c10b0 : decide (x11_3 < x9_2) = false := decide_eq_false c10
                    clear c10
                    by_cases c11 : x9_2 = (wrap64 (a2 - 1))
                    · rw [if_pos c11] at H
                      have c11b0 : (x9_2 == (wrap64 (a2 - 1))) = true := beq_iff_eq.mpr c11
                      have c11b1 : (x9_2 != (wrap64 (a2 - 1))) = false := bne_eq_false_iff_eq.mpr c11
                      clear c11
                      by_cases c12 : x10_3 > 255
                      · rw [if_pos c12] at H
                        have c12b0 : decide (255 < x10_3) = true := decide_eq_true c12
                        clear c12
                        simp only [Option.some.injEq, Prod.mk.injEq] at H
                        obtain ⟨rfl, rfl⟩ := H
                        go_wp2
                        go_ret2
                        exact ⟨by first | rfl | (simp [errW_none, errW_some] <;> rfl) | (simp [*, errW_none, errW_some] <;> rfl), by repeat (first | (with_reducible first | exact HB.out | apply below_alloc | apply pw_below_drewN | apply below_drew1) | exact HB.out)⟩
                      · rw [if_neg c12] at H
                        have c12b0 : decide (255 < x10_3) = false := decide_eq_false c12
                        clear c12
                        by_cases c13 : x8_2.length < 140737488355328
                        · rw [if_pos c13] at H
                          have LMc13 := Aside0.mk c13
                          clear c13
                          obtain ⟨y191, hy191⟩ : ∃ y_ : List Int, y_ = (x8_2 ++ [(Int.tmod x10_3 256) % 256]) := ⟨_, rfl⟩
                          replace H : (rollbookref01_Put.l0 k3 a0 a1 a2 y191 (wrap64 (x9_2 - 1))) = some (r1, r2) := by first | (rw [hy191]; with_reducible exact H) | (have H2_ := (Option.bind_some _ _).symm.trans H; rw [hy191]; with_reducible exact H2_) | (have H2_ := (Option.bind_some _ _).symm.trans H; with_reducible exact H2_) | with_reducible exact H | (rw [hy191]; exact H) | exact H
                          have Ny191 := Aside0.mk hy191
                          clear hy191
                          have H' := Aside0.mk H
                          clear H
                          go_wp2_with (first | ((with_reducible refine gate_builtin (b := .append) (xs := #[.tmp 41, .tmp 45]) rfl ?_); at_builtin; refine Kd.R_append (Kd.int .u8) (w0 := w) w.heap.size rfl (.tmp 41) (.tmp 45) 134 5 (.int .u8 0) 1 rfl Try.underlying134 info5 rfl (by decide) (by omega) u8 x8_2 ((Int.tmod x10_3 256) % 256) [.int .u8 ((Int.tmod x10_3 256) % 256)] (fun _ => True) (fun _ => False) rfl rfl ?aP (fun _ hk => hk.elim) ?aF ?aO ?aB ?aS ?aL ?_; (case aP => exact rfl); (case aB => exact (by repeat (first | (with_reducible first | exact HB.out | apply below_alloc | apply pw_below_drewN | apply below_drew1) | exact HB.out))); (case aF => exact (fun _ _ => trivial)); (case aO => exact (by (with_reducible repeat (first | apply Kd.R_alloc | apply Kd.R_drewN | apply Kd.R_drew)); exact HO_8.out)); (case aS => exact (below_size (by repeat (first | (with_reducible first | exact HB.out | apply below_alloc | apply pw_below_drewN | apply below_drew1) | exact HB.out)))); (case aL => have := LMc13.out; omega); intro v192 w14 ho hb hg hat; rw [← Ny191.out] at ho; have n0_ := Aside0.mk (hb); have n1_ := Aside0.mk (ho); clear HB; clear HO_8; have HB := n0_; have HO193 := n1_; clear n0_ n1_; clear ho hb hg hat))
                          go_roundg k3
                          case measure => have := HJ3.out; have := HK2.out; have := HK3.out; omega
                          case rel => exact ⟨(y191), (wrap64 (x9_2 - 1)), (by first | rfl | (simp; done) | (simp [*]; done)), H', ⟨by have := HJ3.out; have := HK2.out; have := HK3.out; omega⟩, ⟨by (with_reducible repeat (first | apply Kd.R_alloc | apply Kd.R_drewN | apply Kd.R_drew)); exact HO193.out⟩, ⟨by repeat (first | (with_reducible first | exact HB.out | apply below_alloc | apply pw_below_drewN | apply below_drew1) | exact HB.out)⟩⟩
                        · rw [if_neg c13] at H
                          exact absurd H (by simp)
                    · rw [if_neg c11] at H
                      have c11b0 : (x9_2 == (wrap64 (a2 - 1))) = false := beq_eq_false_iff_ne.mpr c11
                      have c11b1 : (x9_2 != (wrap64 (a2 - 1))) = true := bne_iff_ne.mpr c11
                      by_cases c15 : x8_2.length < 140737488355328
                      · rw [if_pos c15] at H
                        have LMc15 := Aside0.mk c15
                        clear c15
                        obtain ⟨y194, hy194⟩ : ∃ y_ : List Int, y_ = (x8_2 ++ [(Int.tmod x10_3 256) % 256]) := ⟨_, rfl⟩
                        replace H : (rollbookref01_Put.l0 k3 a0 a1 a2 y194 (wrap64 (x9_2 - 1))) = some (r1, r2) := by first | (rw [hy194]; with_reducible exact H) | (have H2_ := (Option.bind_some _ _).symm.trans H; rw [hy194]; with_reducible exact H2_) | (have H2_ := (Option.bind_some _ _).symm.trans H; with_reducible exact H2_) | with_reducible exact H | (rw [hy194]; exact H) | exact H
                        have Ny194 := Aside0.mk hy194
                        clear hy194
                        have H' := Aside0.mk H
                        clear H
                        go_wp2_with (first | ((with_reducible refine gate_builtin (b := .append) (xs := #[.tmp 41, .tmp 45]) rfl ?_); at_builtin; refine Kd.R_append (Kd.int .u8) (w0 := w) w.heap.size rfl (.tmp 41) (.tmp 45) 134 5 (.int .u8 0) 1 rfl Try.underlying134 info5 rfl (by decide) (by omega) u8 x8_2 ((Int.tmod x10_3 256) % 256) [.int .u8 ((Int.tmod x10_3 256) % 256)] (fun _ => True) (fun _ => False) rfl rfl ?aP (fun _ hk => hk.elim) ?aF ?aO ?aB ?aS ?aL ?_; (case aP => exact rfl); (case aB => exact (by repeat (first | (with_reducible first | exact HB.out | apply below_alloc | apply pw_below_drewN | apply below_drew1) | exact HB.out))); (case aF => exact (fun _ _ => trivial)); (case aO => exact (by (with_reducible repeat (first | apply Kd.R_alloc | apply Kd.R_drewN | apply Kd.R_drew)); exact HO_8.out)); (case aS => exact (below_size (by repeat (first | (with_reducible first | exact HB.out | apply below_alloc | apply pw_below_drewN | apply below_drew1) | exact HB.out)))); (case aL => have := LMc15.out; omega); intro v195 w16 ho hb hg hat; rw [← Ny194.out] at ho; have n0_ := Aside0.mk (hb); have n1_ := Aside0.mk (ho); clear HB; clear HO_8; have HB := n0_; have HO196 := n1_; clear n0_ n1_; clear ho hb hg hat))
                        go_roundg k3
                        case measure => have := HJ3.out; have := HK2.out; have := HK3.out; omega
                        case rel => exact ⟨(y194), (wrap64 (x9_2 - 1)), (by first | rfl | (simp; done) | (simp [*]; done)), H', ⟨by have := HJ3.out; have := HK2.out; have := HK3.out; omega⟩, ⟨by (with_reducible repeat (first | apply Kd.R_alloc | apply Kd.R_drewN | apply Kd.R_drew)); exact HO196.out⟩, ⟨by repeat (first | (with_reducible first | exact HB.out | apply below_alloc | apply pw_below_drewN | apply below_drew1) | exact HB.out)⟩⟩
                      · rw [if_neg c15] at H
                        exact absurd H (by simp)
            · rw [if_neg c9] at H
              have c9b0 : decide (0 ≤ x9_2) = false := decide_eq_false c9
              clear c9
              by_cases c17 : a0.size + (strOfNums x8_2).size ≤ 9223372036854775807
              · rw [if_pos c17] at H
                have c17b0 := eq_true c17
                have c17b1 : decide (a0.size + (strOfNums x8_2).size ≤ 9223372036854775807) = true := decide_eq_true c17
                try have c17b2 : (9223372036854775807 < a0.size + (strOfNums x8_2).size) = False := eq_false (Nat.not_lt.2 c17)
                simp only [Option.some.injEq, Prod.mk.injEq] at H
                obtain ⟨rfl, rfl⟩ := H
                have hcv18 := own_string (P := Try.prog) Try.underlying134 Try.underlying5 Try.underlying9 (Kd.own_of_R HO_8.out)
                go_wp2
                go_ret2
                exact ⟨by first | rfl | (simp [errW_none, errW_some] <;> rfl) | (simp [*, errW_none, errW_some] <;> rfl), by repeat (first | (with_reducible first | exact HB.out | apply below_alloc | apply pw_below_drewN | apply below_drew1) | exact HB.out)⟩
              · rw [if_neg c17] at H
                exact absurd H (by simp)

/-! ### rollbookref04_Number: function 88 -/
def rollbookref04_Number.f (k : Nat) (a0 : Int) (a1 : Int) : Option (ByteArray) := (rollbookref01_Put.f k (⟨#[]⟩ : ByteArray) (IntKind.u64.wrap (a0)) a1).bind fun bt197 => (some bt197.1)
theorem rollbookref04_Number.mono : ∀ a0 a1 k, LeO (rollbookref04_Number.f k a0 a1) (rollbookref04_Number.f (k + 1) a0 a1) := by
  intro a0 a1 k
  unfold rollbookref04_Number.f
  repeat' first
      | (with_reducible exact rollbookref01_Put.mono _ _ _ _)
      | (with_reducible exact LeO.refl _)
      | (with_reducible exact LeO.none _)
      | (with_reducible refine LeO.ite ?_ ?_)
      | (with_reducible refine LeO.bind ?_ (fun _ => ?_))
      | exact rollbookref01_Put.mono _ _ _ _
      | exact LeO.none _
      | refine LeO.ite ?_ ?_
      | refine LeO.bind ?_ (fun _ => ?_)
set_option maxHeartbeats 8000000 in
set_option maxRecDepth 100000 in
theorem rollbookref04_Number.calls (k : Nat) (a0 : Int) (a1 : Int) (r : ByteArray) (w : World) (h : rollbookref04_Number.f k a0 a1 = some r) :
    Calls Try.prog 88 #[.int .i64 a0, .int .i64 a1] w fun e w' => e = .returned (.string r) ∧ Below w.heap.size w w' := by
  have HB := Aside0.mk (Below.refl w.heap.size w)
  have H : ((rollbookref01_Put.f k (⟨#[]⟩ : ByteArray) (IntKind.u64.wrap (a0)) a1).bind fun bt197 => (some bt197.1)) = some r := h
  clear h
  replace H := Option.bind_eq_some_iff.mp H
  obtain ⟨⟨t197, t198⟩, A30, H⟩ := H
  replace H : (some t197) = some r := H
  have A3 := Aside0.mk A30
  clear A30
  obtain rfl := Option.some.inj H
  go_enter Try.func88, Try.ntmps88
  go_wp2_with (first | ((with_reducible refine gate_callee (f := 127) rfl ?_); refine goesL_ (some 11) rfl rfl Try.func127 (by kernel_rfl) rfl #[.string (⟨#[]⟩ : ByteArray), .int .u64 (IntKind.u64.wrap (a0)), .int .i64 a1] rfl (by (try simp only [List.map_toArray, List.map_cons, List.map_nil]); first | done | rfl | (simp only [List.length_drop, List.length_take]; rfl)) ?_; (with_reducible refine (rollbookref01_Put.calls k (⟨#[]⟩ : ByteArray) (IntKind.u64.wrap (a0)) a1 t197 t198 _ A3.out).mono ?_); rintro e w4 ⟨rfl, hb⟩; refine ⟨_, rfl, ?_⟩; have n0_ := Aside0.mk (below_step (by repeat (first | (with_reducible first | exact HB.out | apply below_alloc | apply pw_below_drewN | apply below_drew1) | exact HB.out)) hb); clear HB; have HB := n0_; clear n0_; (try clear hb); (try clear hb2); (try clear hk); (try clear hi)))
  go_ret
  exact ⟨by first | rfl | (simp [errW_none, errW_some] <;> rfl) | (simp [*, errW_none, errW_some] <;> rfl), by repeat (first | (with_reducible first | exact HB.out | apply below_alloc | apply pw_below_drewN | apply below_drew1) | exact HB.out)⟩

/-! ### rollbookref06_One: function 89 -/
def rollbookref06_One.f (k : Nat) (a0 : Bool) (a1_0 : ByteArray) (a1_1 : ByteArray) (a1_2 : Int) (a1_3 : Int) (a1_4 : Int) : Option (ByteArray) :=
  (rollbookref04_Number.f k (a1_0.size : Int) 2).bind fun t170 =>
    (if a0 = true then
      (if 0 < a1_2 then
        ((rollbookref04_Number.f k a1_2 4).bind fun t172 => ((rollbookref04_Number.f k a1_3 4).bind fun t173 =>
          (if t170.size + a1_0.size + 1 + t172.size + t173.size ≤ 9223372036854775807 then some ((((t170 ++ a1_0) ++ (⟨#[1]⟩ : ByteArray)) ++ t172) ++ t173) else none)))
       else
        ((rollbookref04_Number.f k (a1_1.size : Int) 2).bind fun t174 =>
          (if t170.size + a1_0.size + 1 + t174.size + a1_1.size ≤ 9223372036854775807 then some ((((t170 ++ a1_0) ++ (⟨#[0]⟩ : ByteArray)) ++ t174) ++ a1_1) else none)))
     else
      ((rollbookref04_Number.f k a1_4 4).bind fun t171 =>
        (if t170.size + a1_0.size + t171.size ≤ 9223372036854775807 then some ((t170 ++ a1_0) ++ t171) else none)))
theorem rollbookref06_One.mono : ∀ a0 a1 a2 a3 a4 a5 k, LeO (rollbookref06_One.f k a0 a1 a2 a3 a4 a5) (rollbookref06_One.f (k + 1) a0 a1 a2 a3 a4 a5) := by
  intro a0 a1 a2 a3 a4 a5 k
  unfold rollbookref06_One.f
  have m := rollbookref04_Number.mono
  exact LeO.bind (m _ _ _) fun _ => LeO.ite (LeO.ite (LeO.bind (m _ _ _) fun _ => LeO.bind (m _ _ _) fun _ => LeO.refl _) (LeO.bind (m _ _ _) fun _ => LeO.refl _)) (LeO.bind (m _ _ _) fun _ => LeO.refl _)
set_option maxHeartbeats 8000000 in
set_option maxRecDepth 100000 in
theorem rollbookref06_One.calls (k : Nat) (a0 : Bool) (a1_0 : ByteArray) (a1_1 : ByteArray) (a1_2 : Int) (a1_3 : Int) (a1_4 : Int) (r : ByteArray) (w : World) (h : rollbookref06_One.f k a0 a1_0 a1_1 a1_2 a1_3 a1_4 = some r) :
    Calls Try.prog 89 #[.bool a0, .agg #[.string a1_0, .string a1_1, .int .i64 a1_2, .int .i64 a1_3, .int .i64 a1_4]] w fun e w' => e = .returned (.string r) ∧ Below w.heap.size w w' := by
  unfold rollbookref06_One.f at h
  obtain ⟨t170, A0, h⟩ := Option.bind_eq_some_iff.mp h
  have A0 := Aside0.mk A0
  cases a0 with
  | false =>
    simp only [Bool.false_eq_true, if_false] at h
    obtain ⟨t171, A1, h⟩ := Option.bind_eq_some_iff.mp h
    have A1 := Aside0.mk A1
    by_cases c : t170.size + a1_0.size + t171.size ≤ 9223372036854775807
    case neg => rw [if_neg c] at h; exact absurd h (by simp)
    rw [if_pos c] at h
    obtain rfl := Option.some.inj h
    clear h
    have c1 : (9223372036854775807 < t170.size + a1_0.size) = False := eq_false (by omega)
    have c2 : (9223372036854775807 < t170.size + a1_0.size + t171.size) = False := eq_false (by omega)
    clear c
    go_enter Try.func89, Try.ntmps89
    go_wp2_with fail
    go_region_held3 (fun w' => w'.cell? ⟨w.heap.size, 0, none⟩ = some (.string a1_0) ∧ w'.cell? ⟨w.heap.size, 4, none⟩ = some (.int .i64 a1_4)) (go_keep) ((first | (go_at_call 88; (with_reducible refine (rollbookref04_Number.calls k _ _ t170 _ A0.out).mono ?_); rintro e w6 ⟨rfl, hb⟩; have hB6 := below_then (below_drew (below_alloc (Below.refl w.heap.size w) _)) (below_drew (below_alloc (Below.refl w.heap.size w) _)).size hb; obtain ⟨hc6, hf6⟩ := bcell hb)))
    go_wp2_with (go_at_call 88; (with_reducible refine (rollbookref04_Number.calls k _ _ t171 _ A1.out).mono ?_); rintro e w7 ⟨rfl, hb7⟩)
    go_ret
    exact ⟨rfl, below_then hB6 hB6.size hb7⟩
  | true =>
    simp only [if_true] at h
    by_cases c3 : 0 < a1_2
    · rw [if_pos c3] at h
      obtain ⟨t172, A1, h⟩ := Option.bind_eq_some_iff.mp h
      obtain ⟨t173, A2, h⟩ := Option.bind_eq_some_iff.mp h
      have A1 := Aside0.mk A1
      have A2 := Aside0.mk A2
      by_cases c : t170.size + a1_0.size + 1 + t172.size + t173.size ≤ 9223372036854775807
      case neg => rw [if_neg c] at h; exact absurd h (by simp)
      rw [if_pos c] at h
      obtain rfl := Option.some.inj h
      clear h
      have c1 : (9223372036854775807 < t170.size + a1_0.size) = False := eq_false (by omega)
      have c2 : (9223372036854775807 < t170.size + a1_0.size + 1) = False := eq_false (by omega)
      have c4 : (9223372036854775807 < t170.size + a1_0.size + 1 + t172.size) = False := eq_false (by omega)
      have c5 : (9223372036854775807 < t170.size + a1_0.size + 1 + t172.size + t173.size) = False := eq_false (by omega)
      clear c
      go_enter Try.func89, Try.ntmps89
      go_wp2_with fail
      go_region_held3 (fun w' => w'.cell? ⟨w.heap.size, 0, none⟩ = some (.string a1_0) ∧ w'.cell? ⟨w.heap.size, 2, none⟩ = some (.int .i64 a1_2) ∧ w'.cell? ⟨w.heap.size, 3, none⟩ = some (.int .i64 a1_3)) (go_keep) ((first | (go_at_call 88; (with_reducible refine (rollbookref04_Number.calls k _ _ t170 _ A0.out).mono ?_); rintro e w6 ⟨rfl, hb⟩; have hB6 := below_then (below_drew (below_alloc (Below.refl w.heap.size w) _)) (below_drew (below_alloc (Below.refl w.heap.size w) _)).size hb; obtain ⟨hc6, hf6⟩ := bcell hb)))
      have hz6 : w.heap.size < w6.heap.size := by have := hb.size; simp at this; omega
      have hk2 : w6.cell? ⟨w.heap.size, 2, none⟩ = some (.int .i64 a1_2) := (hc6 _ _ (by simp)).trans (by simp [go_sem])
      have hk3 : w6.cell? ⟨w.heap.size, 3, none⟩ = some (.int .i64 a1_3) := (hc6 _ _ (by simp)).trans (by simp [go_sem])
      go_wp2_with fail
      have hB6d := below_drew hB6
      go_region_held3 (fun w' => w'.cell? ⟨w.heap.size, 2, none⟩ = some (.int .i64 a1_2) ∧ w'.cell? ⟨w.heap.size, 3, none⟩ = some (.int .i64 a1_3)) (first | exact ⟨hk2, hk3⟩ | exact ⟨(hc7 _ _ hz6).trans hk2, (hc7 _ _ hz6).trans hk3⟩ | exact ⟨(hc8 _ _ (Nat.lt_of_lt_of_le hz6 hb7.size)).trans ((hc7 _ _ hz6).trans hk2), (hc8 _ _ (Nat.lt_of_lt_of_le hz6 hb7.size)).trans ((hc7 _ _ hz6).trans hk3)⟩) ((first | (go_at_call_of 88 a1_2; (with_reducible refine (rollbookref04_Number.calls k _ _ t172 _ A1.out).mono ?_); rintro e w7 ⟨rfl, hb7⟩; have hB7 := below_then hB6d hB6d.size hb7; obtain ⟨hc7, hf7⟩ := bcell hb7) | (go_at_call_of 88 a1_3; (with_reducible refine (rollbookref04_Number.calls k _ _ t173 _ A2.out).mono ?_); rintro e w8 ⟨rfl, hb8⟩; have hB8 := below_then hB7 hB7.size hb8; obtain ⟨hc8, hf8⟩ := bcell hb8)))
      go_wp2_with fail
      go_ret
      exact ⟨rfl, hB8⟩
    · rw [if_neg c3] at h
      obtain ⟨t174, A1, h⟩ := Option.bind_eq_some_iff.mp h
      have A1 := Aside0.mk A1
      by_cases c : t170.size + a1_0.size + 1 + t174.size + a1_1.size ≤ 9223372036854775807
      case neg => rw [if_neg c] at h; exact absurd h (by simp)
      rw [if_pos c] at h
      obtain rfl := Option.some.inj h
      clear h
      have c1 : (9223372036854775807 < t170.size + a1_0.size) = False := eq_false (by omega)
      have c2 : (9223372036854775807 < t170.size + a1_0.size + 1) = False := eq_false (by omega)
      have c4 : (9223372036854775807 < t170.size + a1_0.size + 1 + t174.size) = False := eq_false (by omega)
      have c5 : (9223372036854775807 < t170.size + a1_0.size + 1 + t174.size + a1_1.size) = False := eq_false (by omega)
      clear c
      go_enter Try.func89, Try.ntmps89
      go_wp2_with fail
      go_region_held3 (fun w' => w'.cell? ⟨w.heap.size, 0, none⟩ = some (.string a1_0) ∧ w'.cell? ⟨w.heap.size, 2, none⟩ = some (.int .i64 a1_2) ∧ w'.cell? ⟨w.heap.size, 1, none⟩ = some (.string a1_1)) (go_keep) ((first | (go_at_call 88; (with_reducible refine (rollbookref04_Number.calls k _ _ t170 _ A0.out).mono ?_); rintro e w6 ⟨rfl, hb⟩; have hB6 := below_then (below_drew (below_alloc (Below.refl w.heap.size w) _)) (below_drew (below_alloc (Below.refl w.heap.size w) _)).size hb; obtain ⟨hc6, hf6⟩ := bcell hb)))
      have hz6 : w.heap.size < w6.heap.size := by have := hb.size; simp at this; omega
      have hk2 : w6.cell? ⟨w.heap.size, 1, none⟩ = some (.string a1_1) := (hc6 _ _ (by simp)).trans (by simp [go_sem])
      have hk3 : w6.cell? ⟨w.heap.size, 2, none⟩ = some (.int .i64 a1_2) := (hc6 _ _ (by simp)).trans (by simp [go_sem])
      go_wp2_with fail
      have hB6d := below_drew hB6
      go_region_held3 (fun w' => w'.cell? ⟨w.heap.size, 1, none⟩ = some (.string a1_1)) (first | exact hk2 | exact (hc7 _ _ hz6).trans hk2) ((first | (go_at_call 88; (with_reducible refine (rollbookref04_Number.calls k _ _ t174 _ A1.out).mono ?_); rintro e w7 ⟨rfl, hb7⟩; have hB7 := below_then hB6d hB6d.size hb7; obtain ⟨hc7, hf7⟩ := bcell hb7)))
      go_wp2_with fail
      go_ret
      exact ⟨rfl, hB7⟩


end Go.Proofs.Ytjbkkmgkckopdaa.PN
