/- The table of readers: who reads, sorted (Live). -/
import Derived.Test.YtjbkkmgkckopdaaSort
import Derived.Test.YtjbkkmgkckopdaaPNx0
namespace Go.Proofs.Ytjbkkmgkckopdaa.Rd
open Go.RowKit Go.Proofs.YtjbkkmgkckopdaaW.PrintWords Go.Proofs.YtjbkkmgkckopdaaW.PrintLast Go.Proofs.YtjbkkmgkckopdaaW.PrintMore
set_option linter.unusedVariables false
set_option linter.unusedSimpArgs false
theorem info3 : (Try.prog.info? 3).map (fun i => (i.zero, i.size, i.bytes)) = some (some (.int .i64 0), 1, 8) := by kernel_rfl
/-- A slot: the version, and whether it is used. -/
abbrev Slot := Int × Bool
def enc8 (a b c d : Slot) : Array Value := #[.int .i64 a.1, .bool a.2, .int .i64 b.1, .bool b.2, .int .i64 c.1, .bool c.2, .int .i64 d.1, .bool d.2]
/-- The table at block g. -/
def Tab (w : World) (g : Nat) (a b c d : Slot) : Prop := w.heap[g]? = some (.cells (enc8 a b c d) 130 (0, 0))
def one (s : Slot) : List Int := if s.2 then [s.1] else []
/-- What the first k slots read. -/
def upto (a b c d : Slot) : Nat → List Int
  | 0 => []
  | 1 => one a
  | 2 => one a ++ one b
  | 3 => one a ++ one b ++ one c
  | _ => one a ++ one b ++ one c ++ one d
def ints (l : List Int) : List Value := l.map (fun x => Value.int .i64 x)
theorem own_below {w w' : World} {B e size n : Nat} {v : Value} {xs : List Value} (h : w.ownsRow B e size v n xs) (hb : Below w.heap.size w w') : w'.ownsRow B e size v n xs := by
  obtain ⟨h1, h2⟩ := h
  refine ⟨h1, h2.imp id ?_⟩
  rintro ⟨g, cap, cur, h3, h4, h5, h6⟩
  exact ⟨g, cap, cur, h3, h4, blk_below h5 hb, h6⟩
theorem own_lt {w : World} {B e size n g : Nat} {v : Value} {xs : List Value} (h : w.ownsRow B e size v n xs) (hg : w.heap.size ≤ g) : some g ≠ v.ownBlock := by
  intro he
  rcases h.2 with ⟨h1, _⟩ | ⟨g', cap, cur, h1, _, h2, _⟩
  · subst h1; simp [Value.ownBlock] at he
  · subst h1
    simp only [Value.ownBlock, Option.some.injEq] at he
    subst he
    exact absurd (blk_lt h2) (by omega)
theorem ix0 (v0 v1 v2 v3 v4 v5 v6 v7 : Value) (W : World) : (Instr.index 128 (.agg #[v0, v1, v2, v3, v4, v5, v6, v7]) (.int .i64 0)).run Try.prog W = .ok (.agg #[v0, v1]) W := by
  kernel_rfl
theorem ix1 (v0 v1 v2 v3 v4 v5 v6 v7 : Value) (W : World) : (Instr.index 128 (.agg #[v0, v1, v2, v3, v4, v5, v6, v7]) (.int .i64 1)).run Try.prog W = .ok (.agg #[v2, v3]) W := by
  kernel_rfl
theorem ix2 (v0 v1 v2 v3 v4 v5 v6 v7 : Value) (W : World) : (Instr.index 128 (.agg #[v0, v1, v2, v3, v4, v5, v6, v7]) (.int .i64 2)).run Try.prog W = .ok (.agg #[v4, v5]) W := by
  kernel_rfl
theorem ix3 (v0 v1 v2 v3 v4 v5 v6 v7 : Value) (W : World) : (Instr.index 128 (.agg #[v0, v1, v2, v3, v4, v5, v6, v7]) (.int .i64 3)).run Try.prog W = .ok (.agg #[v6, v7]) W := by
  kernel_rfl
theorem isort_nil (w : World) : Calls Try.prog 145 #[.slice none 0 0, .int .i64 0, .int .i64 0] w fun e w' => e = .returned (.tuple #[]) ∧ w' = w := by
  go_enter Try.func145, Try.ntmps145
  go_wp2_with fail
  refine wp_loop_rounds 1 ?_
  rw [rounds_succ]
  go_wp2_with fail
  first | go_end0 | refine bodyPost_ret (results_list (rs := []) rfl (by simp) .nil) rfl ?_
  exact ⟨rfl, rfl⟩
theorem pdq_nil (x : Int) (w : World) : Calls Try.prog 128 #[.slice none 0 0, .int .i64 0, .int .i64 0, .int .i64 x] w fun e w' => e = .returned (.tuple #[]) ∧ w' = w := by
  go_enter Try.func128, Try.ntmps128
  go_wp2_with fail
  refine wp_loop_rounds 1 ?_
  rw [rounds_succ]
  go_wp2_with fail
  refine (isort_nil _).mono ?_
  rintro e w1 ⟨rfl, rfl⟩
  go_wp2_with fail
  first | go_end0 | refine bodyPost_ret (results_list (rs := []) rfl (by simp) .nil) rfl ?_
  exact ⟨rfl, rfl⟩
theorem sort_nil (w : World) : Calls Try.prog 95 #[.slice none 0 0] w fun e w' => e = .returned (.tuple #[]) ∧ w' = w := by
  go_enter Try.func95, Try.ntmps95
  go_wp2_with fail
  refine (len_calls 0 (by omega) _).mono ?_
  rintro e w1 ⟨x, rfl, rfl⟩
  go_wp2_with fail
  refine (pdq_nil x _).mono ?_
  rintro e w1 ⟨rfl, rfl⟩
  go_wp2_with fail
  first | go_end0 | refine bodyPost_ret (results_list (rs := []) rfl (by simp) .nil) rfl ?_
  exact ⟨rfl, rfl⟩
theorem only_below {g : Nat} {w0 w w' : World} (h : Only g w w') (hb : Below w0.heap.size w0 w) (hg : w0.heap.size ≤ g) : Below w0.heap.size w0 w' :=
  ⟨h.os.trans hb.os, h.tape.trans hb.tape, h.output.trans hb.output, Nat.le_trans hb.size h.size, fun k hk => (h.block k (Nat.lt_of_lt_of_le hk hb.size) (by omega)).trans (hb.block k hk)⟩
/-- The sort of a row of the call's own, nil or not. -/
theorem sort_own (w0 w : World) (v : Value) (xs : List Int) (hn : xs.length ≤ 4) (hb : Below w0.heap.size w0 w) (ho : w.ownsRow w0.heap.size 3 1 v xs.length (ints xs)) :
    Calls Try.prog 95 #[v] w fun e w' => e = .returned (.tuple #[]) ∧ ∃ ys : List Int, ys.Perm xs ∧ SortedTo ys xs.length ∧ w'.ownsRow w0.heap.size 3 1 v ys.length (ints ys) ∧ Below w0.heap.size w0 w' := by
  have ho' := ho
  obtain ⟨h1, ⟨rfl, h0⟩ | ⟨g, cap, cur, rfl, hg, hc, hnc, hcm, hsz, htk⟩⟩ := ho
  · have e : xs = [] := List.length_eq_zero_iff.1 h0
    subst e
    refine (sort_nil w).mono ?_
    rintro e w1 ⟨rfl, rfl⟩
    exact ⟨rfl, [], List.Perm.refl _, fun a b h1 h2 => absurd h2 (by simp), ho', hb⟩
  · have hrow : IntRow w g xs (cur.toList.drop xs.length) := by
      unfold IntRow
      rw [hc]
      have e : (ints xs ++ cur.toList.drop xs.length).toArray = cur := by
        rw [← htk, Nat.mul_one, List.take_append_drop]
      exact congrArg (fun z => some (Obj.cells z 3 (0, 0))) e.symm
    refine (sort_calls g cap xs.length xs _ w hrow rfl hn).mono ?_
    rintro e w1 ⟨rfl, ys, hp, hs, hr, ho⟩
    refine ⟨rfl, ys, hp, hs, ⟨by simp [ints], .inr ⟨g, cap, _, by rw [hp.length_eq], hg, hr, by rw [hp.length_eq]; exact hnc, hcm, ?_, ?_⟩⟩, only_below ho hb hg⟩
    · simp only [List.size_toArray, List.length_append, List.length_map, List.length_drop, hp.length_eq, Array.length_toList]; omega
    · simp [ints]

set_option maxHeartbeats 8000000 in
set_option maxRecDepth 1000000 in
theorem live_calls (g : Nat) (a0 b0 c0 d0 : Int) (a1 b1 c1 d1 : Bool) (w : World) (ht : Tab w g (a0, a1) (b0, b1) (c0, c1) (d0, d1)) :
    Calls Try.prog 44 #[.pointer (some ⟨g, 0, none⟩)] w fun e w' => ∃ (v : Value) (ys : List Int), e = .returned v ∧ ys.Perm (upto (a0, a1) (b0, b1) (c0, c1) (d0, d1) 4) ∧ SortedTo ys ys.length ∧ w'.ownsRow w.heap.size 3 1 v ys.length (ints ys) ∧ Below w.heap.size w w' := by
  have HT := Aside0.mk ht
  have z0 : w.cell? ⟨g, 0, none⟩ = some (.int .i64 a0) := (blk_cell ht 0).trans rfl
  have z1 : w.cell? ⟨g, 1, none⟩ = some (.bool a1) := (blk_cell ht 1).trans rfl
  have z2 : w.cell? ⟨g, 2, none⟩ = some (.int .i64 b0) := (blk_cell ht 2).trans rfl
  have z3 : w.cell? ⟨g, 3, none⟩ = some (.bool b1) := (blk_cell ht 3).trans rfl
  have z4 : w.cell? ⟨g, 4, none⟩ = some (.int .i64 c0) := (blk_cell ht 4).trans rfl
  have z5 : w.cell? ⟨g, 5, none⟩ = some (.bool c1) := (blk_cell ht 5).trans rfl
  have z6 : w.cell? ⟨g, 6, none⟩ = some (.int .i64 d0) := (blk_cell ht 6).trans rfl
  have z7 : w.cell? ⟨g, 7, none⟩ = some (.bool d1) := (blk_cell ht 7).trans rfl
  clear ht
  go_enter Try.func44, Try.ntmps44
  go_wp2_with fail
  go_loopg [3, 12] 4 (fun kx v3 v12 wr => ∃ (i : Nat), v12 = .int .i64 i ∧ i ≤ 4 ∧ 4 - i ≤ kx ∧ Aside0 (wr.ownsRow w.heap.size 3 1 v3 (upto (a0, a1) (b0, b1) (c0, c1) (d0, d1) i).length (ints (upto (a0, a1) (b0, b1) (c0, c1) (d0, d1) i))) ∧ Aside0 (Below w.heap.size w wr))
  case atStart => exact ⟨0, rfl, by omega, by omega, Aside0.mk ⟨rfl, .inl ⟨rfl, rfl⟩⟩, Aside0.mk (Below.refl _ _)⟩
  case round =>
    clear z0 z1 z2 z3 z4 z5 z6 z7
    obtain ⟨i, rfl, hi, hk, HO, HB⟩ := hrel
    match i, hi with
    | 0, hi =>
      have hlt : ((0 : Nat) : Int) < 4 := by decide
      have hup : upto (a0, a1) (b0, b1) (c0, c1) (d0, d1) (0 + 1) = upto (a0, a1) (b0, b1) (c0, c1) (d0, d1) 0 ++ one (a0, a1) := by simp [upto]
      have hix := ix0
      have HU := Aside0.mk hup
      have hl4 : (upto (a0, a1) (b0, b1) (c0, c1) (d0, d1) 0).length ≤ 4 := by unfold upto one; simp
      clear hup
      cases a1 with
      | true =>
        have ho : one (a0, true) = [a0] := rfl
        go_wp2_with (first | ((with_reducible refine gate_dst (N := 5) rfl ?_); refine box_event ?hg (N := 5) ?hd (cs := #[.int .i64 0, .bool false]) (t := 127) ?hr ?_; (case hd => rfl); (case hg => rfl); (case hr => first | (go_simp; done) | (go_simp; rfl)); intro g5 hg5 w5 hx hb; have HB5 := Aside0.mk (below_step HB.out hb); have HO5 := Aside0.mk (own_below HO.out hb); have GN := Aside0.mk (own_lt HO.out (Nat.le_of_eq hg5.symm)); have GE := Aside0.mk (by have := HB.out.size; omega : w.heap.size ≤ g5); have BX := Aside0.mk hx; clear hg5 hx hb; have x0 : w5.cell? ⟨g5, 0, none⟩ = some (.int .i64 0) := (blk_cell BX.out 0).trans rfl; have x1 : w5.cell? ⟨g5, 1, none⟩ = some (.bool false) := (blk_cell BX.out 1).trans rfl; have xf0 := blk_frozen BX.out 0; have xf1 := blk_frozen BX.out 1) | ((with_reducible refine gate_store (t := 127) (p := 5) rfl ?_); refine store_event rfl (t := 127) (p := 5) rfl rfl (by go_simp; rfl) ?_; intro w6 hw; have HB6 := Aside0.mk (by rw [hw]; exact below_set (below_set HB5.out GE.out) GE.out : Below w.heap.size w w6); have HO6 := Aside0.mk (by rw [hw]; exact own_setCell (own_setCell HO5.out GN.out _) GN.out _ : w6.ownsRow w.heap.size 3 1 _ _ _); have bx6 : w6.heap[g5]? = some (.cells #[.int .i64 a0, .bool true] 127 (0, 0)) := (by rw [hw]; exact blk_put (blk_put BX.out 0 _ rfl) 1 _ rfl); clear hw HB5 HO5 x0 x1 xf0 xf1; have x0 : w6.cell? ⟨g5, 0, none⟩ = some (.int .i64 a0) := (blk_cell bx6 0).trans rfl; have x1 : w6.cell? ⟨g5, 1, none⟩ = some (.bool true) := (blk_cell bx6 1).trans rfl; clear bx6) | ((with_reducible refine gate_builtin (b := .append) (xs := #[.tmp 17, .tmp 20]) rfl ?_); at_builtin; refine print_append_cells (w0 := w) w.heap.size rfl (.tmp 17) (.tmp 20) 55 3 (.int .i64 0) 1 8 rfl Try.underlying55 info3 rfl (by decide) (by decide) _ _ _ [.int .i64 a0] rfl rfl rfl (by simp [Value.oneCell']) HO6.out HB6.out HB6.out.size (by omega) ?_; intro v7 w7 ho hb hg hat; have HO7 := Aside0.mk ho; have HB7 := Aside0.mk hb; clear ho hb hg hat))
        go_roundg (3 - 0)
        case measure => omega
        case rel => exact ⟨0 + 1, rfl, by omega, by omega, Aside0.mk (by rw [HU.out, ho]; simpa [ints] using HO7.out), HB7⟩
      | false =>
        have ho : one (a0, false) = [] := rfl
        go_wp2_with (first | ((with_reducible refine gate_dst (N := 5) rfl ?_); refine box_event ?hg (N := 5) ?hd (cs := #[.int .i64 0, .bool false]) (t := 127) ?hr ?_; (case hd => rfl); (case hg => rfl); (case hr => first | (go_simp; done) | (go_simp; rfl)); intro g5 hg5 w5 hx hb; have HB5 := Aside0.mk (below_step HB.out hb); have HO5 := Aside0.mk (own_below HO.out hb); have GN := Aside0.mk (own_lt HO.out (Nat.le_of_eq hg5.symm)); have GE := Aside0.mk (by have := HB.out.size; omega : w.heap.size ≤ g5); have BX := Aside0.mk hx; clear hg5 hx hb; have x0 : w5.cell? ⟨g5, 0, none⟩ = some (.int .i64 0) := (blk_cell BX.out 0).trans rfl; have x1 : w5.cell? ⟨g5, 1, none⟩ = some (.bool false) := (blk_cell BX.out 1).trans rfl; have xf0 := blk_frozen BX.out 0; have xf1 := blk_frozen BX.out 1) | ((with_reducible refine gate_store (t := 127) (p := 5) rfl ?_); refine store_event rfl (t := 127) (p := 5) rfl rfl (by go_simp; rfl) ?_; intro w6 hw; have HB6 := Aside0.mk (by rw [hw]; exact below_set (below_set HB5.out GE.out) GE.out : Below w.heap.size w w6); have HO6 := Aside0.mk (by rw [hw]; exact own_setCell (own_setCell HO5.out GN.out _) GN.out _ : w6.ownsRow w.heap.size 3 1 _ _ _); have bx6 : w6.heap[g5]? = some (.cells #[.int .i64 a0, .bool false] 127 (0, 0)) := (by rw [hw]; exact blk_put (blk_put BX.out 0 _ rfl) 1 _ rfl); clear hw HB5 HO5 x0 x1 xf0 xf1; have x0 : w6.cell? ⟨g5, 0, none⟩ = some (.int .i64 a0) := (blk_cell bx6 0).trans rfl; have x1 : w6.cell? ⟨g5, 1, none⟩ = some (.bool false) := (blk_cell bx6 1).trans rfl; clear bx6))
        go_roundg (3 - 0)
        case measure => omega
        case rel => exact ⟨0 + 1, rfl, by omega, by omega, Aside0.mk (by rw [HU.out, ho, List.append_nil]; exact HO6.out), HB6⟩
    | 1, hi =>
      have hlt : ((1 : Nat) : Int) < 4 := by decide
      have hup : upto (a0, a1) (b0, b1) (c0, c1) (d0, d1) (1 + 1) = upto (a0, a1) (b0, b1) (c0, c1) (d0, d1) 1 ++ one (b0, b1) := by simp [upto]
      have hix := ix1
      have HU := Aside0.mk hup
      have hl4 : (upto (a0, a1) (b0, b1) (c0, c1) (d0, d1) 1).length ≤ 4 := by unfold upto one; repeat (first | split | simp)
      clear hup
      cases b1 with
      | true =>
        have ho : one (b0, true) = [b0] := rfl
        go_wp2_with (first | ((with_reducible refine gate_dst (N := 5) rfl ?_); refine box_event ?hg (N := 5) ?hd (cs := #[.int .i64 0, .bool false]) (t := 127) ?hr ?_; (case hd => rfl); (case hg => rfl); (case hr => first | (go_simp; done) | (go_simp; rfl)); intro g5 hg5 w5 hx hb; have HB5 := Aside0.mk (below_step HB.out hb); have HO5 := Aside0.mk (own_below HO.out hb); have GN := Aside0.mk (own_lt HO.out (Nat.le_of_eq hg5.symm)); have GE := Aside0.mk (by have := HB.out.size; omega : w.heap.size ≤ g5); have BX := Aside0.mk hx; clear hg5 hx hb; have x0 : w5.cell? ⟨g5, 0, none⟩ = some (.int .i64 0) := (blk_cell BX.out 0).trans rfl; have x1 : w5.cell? ⟨g5, 1, none⟩ = some (.bool false) := (blk_cell BX.out 1).trans rfl; have xf0 := blk_frozen BX.out 0; have xf1 := blk_frozen BX.out 1) | ((with_reducible refine gate_store (t := 127) (p := 5) rfl ?_); refine store_event rfl (t := 127) (p := 5) rfl rfl (by go_simp; rfl) ?_; intro w6 hw; have HB6 := Aside0.mk (by rw [hw]; exact below_set (below_set HB5.out GE.out) GE.out : Below w.heap.size w w6); have HO6 := Aside0.mk (by rw [hw]; exact own_setCell (own_setCell HO5.out GN.out _) GN.out _ : w6.ownsRow w.heap.size 3 1 _ _ _); have bx6 : w6.heap[g5]? = some (.cells #[.int .i64 b0, .bool true] 127 (0, 0)) := (by rw [hw]; exact blk_put (blk_put BX.out 0 _ rfl) 1 _ rfl); clear hw HB5 HO5 x0 x1 xf0 xf1; have x0 : w6.cell? ⟨g5, 0, none⟩ = some (.int .i64 b0) := (blk_cell bx6 0).trans rfl; have x1 : w6.cell? ⟨g5, 1, none⟩ = some (.bool true) := (blk_cell bx6 1).trans rfl; clear bx6) | ((with_reducible refine gate_builtin (b := .append) (xs := #[.tmp 17, .tmp 20]) rfl ?_); at_builtin; refine print_append_cells (w0 := w) w.heap.size rfl (.tmp 17) (.tmp 20) 55 3 (.int .i64 0) 1 8 rfl Try.underlying55 info3 rfl (by decide) (by decide) _ _ _ [.int .i64 b0] rfl rfl rfl (by simp [Value.oneCell']) HO6.out HB6.out HB6.out.size (by omega) ?_; intro v7 w7 ho hb hg hat; have HO7 := Aside0.mk ho; have HB7 := Aside0.mk hb; clear ho hb hg hat))
        go_roundg (3 - 1)
        case measure => omega
        case rel => exact ⟨1 + 1, rfl, by omega, by omega, Aside0.mk (by rw [HU.out, ho]; simpa [ints] using HO7.out), HB7⟩
      | false =>
        have ho : one (b0, false) = [] := rfl
        go_wp2_with (first | ((with_reducible refine gate_dst (N := 5) rfl ?_); refine box_event ?hg (N := 5) ?hd (cs := #[.int .i64 0, .bool false]) (t := 127) ?hr ?_; (case hd => rfl); (case hg => rfl); (case hr => first | (go_simp; done) | (go_simp; rfl)); intro g5 hg5 w5 hx hb; have HB5 := Aside0.mk (below_step HB.out hb); have HO5 := Aside0.mk (own_below HO.out hb); have GN := Aside0.mk (own_lt HO.out (Nat.le_of_eq hg5.symm)); have GE := Aside0.mk (by have := HB.out.size; omega : w.heap.size ≤ g5); have BX := Aside0.mk hx; clear hg5 hx hb; have x0 : w5.cell? ⟨g5, 0, none⟩ = some (.int .i64 0) := (blk_cell BX.out 0).trans rfl; have x1 : w5.cell? ⟨g5, 1, none⟩ = some (.bool false) := (blk_cell BX.out 1).trans rfl; have xf0 := blk_frozen BX.out 0; have xf1 := blk_frozen BX.out 1) | ((with_reducible refine gate_store (t := 127) (p := 5) rfl ?_); refine store_event rfl (t := 127) (p := 5) rfl rfl (by go_simp; rfl) ?_; intro w6 hw; have HB6 := Aside0.mk (by rw [hw]; exact below_set (below_set HB5.out GE.out) GE.out : Below w.heap.size w w6); have HO6 := Aside0.mk (by rw [hw]; exact own_setCell (own_setCell HO5.out GN.out _) GN.out _ : w6.ownsRow w.heap.size 3 1 _ _ _); have bx6 : w6.heap[g5]? = some (.cells #[.int .i64 b0, .bool false] 127 (0, 0)) := (by rw [hw]; exact blk_put (blk_put BX.out 0 _ rfl) 1 _ rfl); clear hw HB5 HO5 x0 x1 xf0 xf1; have x0 : w6.cell? ⟨g5, 0, none⟩ = some (.int .i64 b0) := (blk_cell bx6 0).trans rfl; have x1 : w6.cell? ⟨g5, 1, none⟩ = some (.bool false) := (blk_cell bx6 1).trans rfl; clear bx6))
        go_roundg (3 - 1)
        case measure => omega
        case rel => exact ⟨1 + 1, rfl, by omega, by omega, Aside0.mk (by rw [HU.out, ho, List.append_nil]; exact HO6.out), HB6⟩
    | 2, hi =>
      have hlt : ((2 : Nat) : Int) < 4 := by decide
      have hup : upto (a0, a1) (b0, b1) (c0, c1) (d0, d1) (2 + 1) = upto (a0, a1) (b0, b1) (c0, c1) (d0, d1) 2 ++ one (c0, c1) := by simp [upto]
      have hix := ix2
      have HU := Aside0.mk hup
      have hl4 : (upto (a0, a1) (b0, b1) (c0, c1) (d0, d1) 2).length ≤ 4 := by unfold upto one; repeat (first | split | simp)
      clear hup
      cases c1 with
      | true =>
        have ho : one (c0, true) = [c0] := rfl
        go_wp2_with (first | ((with_reducible refine gate_dst (N := 5) rfl ?_); refine box_event ?hg (N := 5) ?hd (cs := #[.int .i64 0, .bool false]) (t := 127) ?hr ?_; (case hd => rfl); (case hg => rfl); (case hr => first | (go_simp; done) | (go_simp; rfl)); intro g5 hg5 w5 hx hb; have HB5 := Aside0.mk (below_step HB.out hb); have HO5 := Aside0.mk (own_below HO.out hb); have GN := Aside0.mk (own_lt HO.out (Nat.le_of_eq hg5.symm)); have GE := Aside0.mk (by have := HB.out.size; omega : w.heap.size ≤ g5); have BX := Aside0.mk hx; clear hg5 hx hb; have x0 : w5.cell? ⟨g5, 0, none⟩ = some (.int .i64 0) := (blk_cell BX.out 0).trans rfl; have x1 : w5.cell? ⟨g5, 1, none⟩ = some (.bool false) := (blk_cell BX.out 1).trans rfl; have xf0 := blk_frozen BX.out 0; have xf1 := blk_frozen BX.out 1) | ((with_reducible refine gate_store (t := 127) (p := 5) rfl ?_); refine store_event rfl (t := 127) (p := 5) rfl rfl (by go_simp; rfl) ?_; intro w6 hw; have HB6 := Aside0.mk (by rw [hw]; exact below_set (below_set HB5.out GE.out) GE.out : Below w.heap.size w w6); have HO6 := Aside0.mk (by rw [hw]; exact own_setCell (own_setCell HO5.out GN.out _) GN.out _ : w6.ownsRow w.heap.size 3 1 _ _ _); have bx6 : w6.heap[g5]? = some (.cells #[.int .i64 c0, .bool true] 127 (0, 0)) := (by rw [hw]; exact blk_put (blk_put BX.out 0 _ rfl) 1 _ rfl); clear hw HB5 HO5 x0 x1 xf0 xf1; have x0 : w6.cell? ⟨g5, 0, none⟩ = some (.int .i64 c0) := (blk_cell bx6 0).trans rfl; have x1 : w6.cell? ⟨g5, 1, none⟩ = some (.bool true) := (blk_cell bx6 1).trans rfl; clear bx6) | ((with_reducible refine gate_builtin (b := .append) (xs := #[.tmp 17, .tmp 20]) rfl ?_); at_builtin; refine print_append_cells (w0 := w) w.heap.size rfl (.tmp 17) (.tmp 20) 55 3 (.int .i64 0) 1 8 rfl Try.underlying55 info3 rfl (by decide) (by decide) _ _ _ [.int .i64 c0] rfl rfl rfl (by simp [Value.oneCell']) HO6.out HB6.out HB6.out.size (by omega) ?_; intro v7 w7 ho hb hg hat; have HO7 := Aside0.mk ho; have HB7 := Aside0.mk hb; clear ho hb hg hat))
        go_roundg (3 - 2)
        case measure => omega
        case rel => exact ⟨2 + 1, rfl, by omega, by omega, Aside0.mk (by rw [HU.out, ho]; simpa [ints] using HO7.out), HB7⟩
      | false =>
        have ho : one (c0, false) = [] := rfl
        go_wp2_with (first | ((with_reducible refine gate_dst (N := 5) rfl ?_); refine box_event ?hg (N := 5) ?hd (cs := #[.int .i64 0, .bool false]) (t := 127) ?hr ?_; (case hd => rfl); (case hg => rfl); (case hr => first | (go_simp; done) | (go_simp; rfl)); intro g5 hg5 w5 hx hb; have HB5 := Aside0.mk (below_step HB.out hb); have HO5 := Aside0.mk (own_below HO.out hb); have GN := Aside0.mk (own_lt HO.out (Nat.le_of_eq hg5.symm)); have GE := Aside0.mk (by have := HB.out.size; omega : w.heap.size ≤ g5); have BX := Aside0.mk hx; clear hg5 hx hb; have x0 : w5.cell? ⟨g5, 0, none⟩ = some (.int .i64 0) := (blk_cell BX.out 0).trans rfl; have x1 : w5.cell? ⟨g5, 1, none⟩ = some (.bool false) := (blk_cell BX.out 1).trans rfl; have xf0 := blk_frozen BX.out 0; have xf1 := blk_frozen BX.out 1) | ((with_reducible refine gate_store (t := 127) (p := 5) rfl ?_); refine store_event rfl (t := 127) (p := 5) rfl rfl (by go_simp; rfl) ?_; intro w6 hw; have HB6 := Aside0.mk (by rw [hw]; exact below_set (below_set HB5.out GE.out) GE.out : Below w.heap.size w w6); have HO6 := Aside0.mk (by rw [hw]; exact own_setCell (own_setCell HO5.out GN.out _) GN.out _ : w6.ownsRow w.heap.size 3 1 _ _ _); have bx6 : w6.heap[g5]? = some (.cells #[.int .i64 c0, .bool false] 127 (0, 0)) := (by rw [hw]; exact blk_put (blk_put BX.out 0 _ rfl) 1 _ rfl); clear hw HB5 HO5 x0 x1 xf0 xf1; have x0 : w6.cell? ⟨g5, 0, none⟩ = some (.int .i64 c0) := (blk_cell bx6 0).trans rfl; have x1 : w6.cell? ⟨g5, 1, none⟩ = some (.bool false) := (blk_cell bx6 1).trans rfl; clear bx6))
        go_roundg (3 - 2)
        case measure => omega
        case rel => exact ⟨2 + 1, rfl, by omega, by omega, Aside0.mk (by rw [HU.out, ho, List.append_nil]; exact HO6.out), HB6⟩
    | 3, hi =>
      have hlt : ((3 : Nat) : Int) < 4 := by decide
      have hup : upto (a0, a1) (b0, b1) (c0, c1) (d0, d1) (3 + 1) = upto (a0, a1) (b0, b1) (c0, c1) (d0, d1) 3 ++ one (d0, d1) := by simp [upto]
      have hix := ix3
      have HU := Aside0.mk hup
      have hl4 : (upto (a0, a1) (b0, b1) (c0, c1) (d0, d1) 3).length ≤ 4 := by unfold upto one; repeat (first | split | simp)
      clear hup
      cases d1 with
      | true =>
        have ho : one (d0, true) = [d0] := rfl
        go_wp2_with (first | ((with_reducible refine gate_dst (N := 5) rfl ?_); refine box_event ?hg (N := 5) ?hd (cs := #[.int .i64 0, .bool false]) (t := 127) ?hr ?_; (case hd => rfl); (case hg => rfl); (case hr => first | (go_simp; done) | (go_simp; rfl)); intro g5 hg5 w5 hx hb; have HB5 := Aside0.mk (below_step HB.out hb); have HO5 := Aside0.mk (own_below HO.out hb); have GN := Aside0.mk (own_lt HO.out (Nat.le_of_eq hg5.symm)); have GE := Aside0.mk (by have := HB.out.size; omega : w.heap.size ≤ g5); have BX := Aside0.mk hx; clear hg5 hx hb; have x0 : w5.cell? ⟨g5, 0, none⟩ = some (.int .i64 0) := (blk_cell BX.out 0).trans rfl; have x1 : w5.cell? ⟨g5, 1, none⟩ = some (.bool false) := (blk_cell BX.out 1).trans rfl; have xf0 := blk_frozen BX.out 0; have xf1 := blk_frozen BX.out 1) | ((with_reducible refine gate_store (t := 127) (p := 5) rfl ?_); refine store_event rfl (t := 127) (p := 5) rfl rfl (by go_simp; rfl) ?_; intro w6 hw; have HB6 := Aside0.mk (by rw [hw]; exact below_set (below_set HB5.out GE.out) GE.out : Below w.heap.size w w6); have HO6 := Aside0.mk (by rw [hw]; exact own_setCell (own_setCell HO5.out GN.out _) GN.out _ : w6.ownsRow w.heap.size 3 1 _ _ _); have bx6 : w6.heap[g5]? = some (.cells #[.int .i64 d0, .bool true] 127 (0, 0)) := (by rw [hw]; exact blk_put (blk_put BX.out 0 _ rfl) 1 _ rfl); clear hw HB5 HO5 x0 x1 xf0 xf1; have x0 : w6.cell? ⟨g5, 0, none⟩ = some (.int .i64 d0) := (blk_cell bx6 0).trans rfl; have x1 : w6.cell? ⟨g5, 1, none⟩ = some (.bool true) := (blk_cell bx6 1).trans rfl; clear bx6) | ((with_reducible refine gate_builtin (b := .append) (xs := #[.tmp 17, .tmp 20]) rfl ?_); at_builtin; refine print_append_cells (w0 := w) w.heap.size rfl (.tmp 17) (.tmp 20) 55 3 (.int .i64 0) 1 8 rfl Try.underlying55 info3 rfl (by decide) (by decide) _ _ _ [.int .i64 d0] rfl rfl rfl (by simp [Value.oneCell']) HO6.out HB6.out HB6.out.size (by omega) ?_; intro v7 w7 ho hb hg hat; have HO7 := Aside0.mk ho; have HB7 := Aside0.mk hb; clear ho hb hg hat))
        go_roundg (3 - 3)
        case measure => omega
        case rel => exact ⟨3 + 1, rfl, by omega, by omega, Aside0.mk (by rw [HU.out, ho]; simpa [ints] using HO7.out), HB7⟩
      | false =>
        have ho : one (d0, false) = [] := rfl
        go_wp2_with (first | ((with_reducible refine gate_dst (N := 5) rfl ?_); refine box_event ?hg (N := 5) ?hd (cs := #[.int .i64 0, .bool false]) (t := 127) ?hr ?_; (case hd => rfl); (case hg => rfl); (case hr => first | (go_simp; done) | (go_simp; rfl)); intro g5 hg5 w5 hx hb; have HB5 := Aside0.mk (below_step HB.out hb); have HO5 := Aside0.mk (own_below HO.out hb); have GN := Aside0.mk (own_lt HO.out (Nat.le_of_eq hg5.symm)); have GE := Aside0.mk (by have := HB.out.size; omega : w.heap.size ≤ g5); have BX := Aside0.mk hx; clear hg5 hx hb; have x0 : w5.cell? ⟨g5, 0, none⟩ = some (.int .i64 0) := (blk_cell BX.out 0).trans rfl; have x1 : w5.cell? ⟨g5, 1, none⟩ = some (.bool false) := (blk_cell BX.out 1).trans rfl; have xf0 := blk_frozen BX.out 0; have xf1 := blk_frozen BX.out 1) | ((with_reducible refine gate_store (t := 127) (p := 5) rfl ?_); refine store_event rfl (t := 127) (p := 5) rfl rfl (by go_simp; rfl) ?_; intro w6 hw; have HB6 := Aside0.mk (by rw [hw]; exact below_set (below_set HB5.out GE.out) GE.out : Below w.heap.size w w6); have HO6 := Aside0.mk (by rw [hw]; exact own_setCell (own_setCell HO5.out GN.out _) GN.out _ : w6.ownsRow w.heap.size 3 1 _ _ _); have bx6 : w6.heap[g5]? = some (.cells #[.int .i64 d0, .bool false] 127 (0, 0)) := (by rw [hw]; exact blk_put (blk_put BX.out 0 _ rfl) 1 _ rfl); clear hw HB5 HO5 x0 x1 xf0 xf1; have x0 : w6.cell? ⟨g5, 0, none⟩ = some (.int .i64 d0) := (blk_cell bx6 0).trans rfl; have x1 : w6.cell? ⟨g5, 1, none⟩ = some (.bool false) := (blk_cell bx6 1).trans rfl; clear bx6))
        go_roundg (3 - 3)
        case measure => omega
        case rel => exact ⟨3 + 1, rfl, by omega, by omega, Aside0.mk (by rw [HU.out, ho, List.append_nil]; exact HO6.out), HB6⟩
    | 4, hi =>
      have hlt : ¬ ((4 : Nat) : Int) < 4 := by decide
      go_wp2_with fail
      refine (sort_own w _ _ (upto (a0, a1) (b0, b1) (c0, c1) (d0, d1) 4) (by unfold upto one; repeat (first | split | simp)) HB.out HO.out).mono ?_
      rintro e w1 ⟨rfl, ys, hp, hs, ho, hb⟩
      have HP := Aside0.mk hp
      have HS := Aside0.mk hs
      have HO1 := Aside0.mk ho
      have HB1 := Aside0.mk hb
      clear hp hs ho hb
      go_wp2_with fail
      go_ret
      exact ⟨_, ys, rfl, HP.out, by rw [HP.out.length_eq]; exact HS.out, HO1.out, HB1.out⟩
end Go.Proofs.Ytjbkkmgkckopdaa.Rd
