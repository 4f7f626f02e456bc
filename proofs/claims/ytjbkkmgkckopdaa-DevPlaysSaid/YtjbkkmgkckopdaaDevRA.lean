/- The reference device in memory: Step, Fuse, Cut. -/
import Derived.Test.YtjbkkmgkckopdaaDevO
namespace Go.Proofs.Ytjbkkmgkckopdaa.Dv
open Go.RowKit Go.Proofs.YtjbkkmgkckopdaaW.PrintWords Go.Proofs.YtjbkkmgkckopdaaW.PrintLast Go.Proofs.YtjbkkmgkckopdaaW.PrintMore Go.Proofs.Ytjbkkmgkckopdaa.Mem
set_option linter.unusedVariables false
set_option linter.unusedSimpArgs false
/-- The cells of a row of writes. -/
def pw_row (l : List (Nat × S)) : List Value := l.flatMap fun p => [.int .i64 (p.1 : Int), .string p.2]
theorem pw_row_len (l : List (Nat × S)) : (pw_row l).length = l.length * 2 := by
  unfold pw_row
  induction l with
  | nil => rfl
  | cons p r ih => rw [List.flatMap_cons, List.length_append, ih, List.length_cons, List.length_cons, List.length_cons, List.length_nil]; omega
theorem pw_row_at : ∀ (l : List (Nat × S)) (j : Nat) (hj : j < l.length), (pw_row l)[j * 2]? = some (.int .i64 (l[j].1 : Int)) ∧ (pw_row l)[j * 2 + 1]? = some (.string l[j].2)
  | p :: r, 0, _ => ⟨rfl, rfl⟩
  | p :: r, j + 1, hj => by
    have h := pw_row_at r j (by simpa using hj)
    have e : pw_row (p :: r) = .int .i64 (p.1 : Int) :: .string p.2 :: pw_row r := rfl
    rw [e, show (j + 1) * 2 = j * 2 + 1 + 1 by omega]
    exact h
theorem pw_row_snoc (l : List (Nat × S)) (p : Nat × S) : pw_row (l ++ [p]) = pw_row l ++ [.int .i64 (p.1 : Int), .string p.2] := by
  unfold pw_row
  rw [List.flatMap_append]
  rfl
/-- Where the reference's parts lie. -/
structure ELay where
  L : Nat
  cap : Nat
  rest : List Value
  v : Value
def E.cells (r : E) (y : ELay) : Array Value := #[.slice (some ⟨y.L, 0, none⟩) r.sector.length y.cap, y.v, .bool r.off, .int .i64 r.left, .int .i64 r.count, .int .i64 r.wrote]
/-- The reference lies at g; what may turn lies in ok. -/
structure EAt (w : World) (ok : Nat → Prop) (g : Nat) (r : E) (y : ELay) : Prop where
  blk : w.heap[g]? = some (.cells (r.cells y) 81 (0, 0))
  sec : Strs w y.L r.sector y.rest
  row : w.ownsRow 0 144 2 y.v r.row.length (pw_row r.row)
  okg : ok g
  okL : ok y.L
  okR : ∀ b, y.v.ownBlock = some b → ok b
  len : r.sector.length ≤ 2048
  few : r.row.length ≤ 1000000
  inr : ∀ p ∈ r.row, p.1 < r.sector.length
theorem own_move {w w' : World} {base : Nat} {e : TypeId} {size : Nat} {v : Value} {n : Nat} {xs : List Value} (h : w.ownsRow base e size v n xs) (hm : ∀ b, v.ownBlock = some b → w'.heap[b]? = w.heap[b]?) : w'.ownsRow base e size v n xs := by
  obtain ⟨h1, h2⟩ := h
  refine ⟨h1, ?_⟩
  rcases h2 with h2 | ⟨g, cap, cur, rfl, hb, hg, h3⟩
  · exact .inl h2
  · exact .inr ⟨g, cap, cur, rfl, hb, (hm g rfl).trans hg, h3⟩
theorem own_in {w : World} {base : Nat} {e : TypeId} {size : Nat} {v : Value} {n : Nat} {xs : List Value} (h : w.ownsRow base e size v n xs) {b : Nat} (hb : v.ownBlock = some b) : ∃ cur, w.heap[b]? = some (.cells cur e (0, 0)) := by
  rcases h.2 with ⟨rfl, _⟩ | ⟨g, cap, cur, rfl, _, hg, _⟩
  · cases hb
  · cases hb
    exact ⟨cur, hg⟩
section
variable {w w' : World} {ok ok' : Nat → Prop} {g : Nat} {r r' : E} {y : ELay}
theorem EAt.move (h : EAt w ok g r y) (hm : ∀ k, ok k → k < w.heap.size → w'.heap[k]? = w.heap[k]?) (hk : ∀ k, ok k → k < w.heap.size → ok' k) : EAt w' ok' g r y :=
  have lt : ∀ {k : Nat} {o : Obj}, w.heap[k]? = some o → k < w.heap.size := fun h => blk_lt h
  { blk := (hm g h.okg (lt h.blk)).trans h.blk
    sec := (hm _ h.okL (lt h.sec)).trans h.sec
    row := own_move h.row (fun b hb => by obtain ⟨c, hc⟩ := own_in h.row hb; exact hm b (h.okR b hb) (lt hc))
    okg := hk _ h.okg (lt h.blk)
    okL := hk _ h.okL (lt h.sec)
    okR := fun b hb => by obtain ⟨c, hc⟩ := own_in h.row hb; exact hk b (h.okR b hb) (lt hc)
    len := h.len
    few := h.few
    inr := h.inr }
theorem EAt.quiet (h : EAt w ok g r y) (hb : Below w.heap.size w w') : EAt w' ok g r y := h.move (fun k _ hk => hb.block k hk) (fun _ h _ => h)
theorem EAt.narrow (h : EAt w ok g r y) : EAt w (fun k => ok k ∧ k < w.heap.size) g r y := h.move (fun _ _ _ => rfl) (fun _ h h' => ⟨h, h'⟩)
theorem EAt.z0 (h : EAt w ok g r y) : w.cell? ⟨g, 0, none⟩ = some (.slice (some ⟨y.L, 0, none⟩) r.sector.length y.cap) := (blk_cell h.blk 0).trans rfl
theorem EAt.z1 (h : EAt w ok g r y) : w.cell? ⟨g, 1, none⟩ = some y.v := (blk_cell h.blk 1).trans rfl
theorem EAt.z2 (h : EAt w ok g r y) : w.cell? ⟨g, 2, none⟩ = some (.bool r.off) := (blk_cell h.blk 2).trans rfl
theorem EAt.z3 (h : EAt w ok g r y) : w.cell? ⟨g, 3, none⟩ = some (.int .i64 r.left) := (blk_cell h.blk 3).trans rfl
theorem EAt.z4 (h : EAt w ok g r y) : w.cell? ⟨g, 4, none⟩ = some (.int .i64 r.count) := (blk_cell h.blk 4).trans rfl
theorem EAt.z5 (h : EAt w ok g r y) : w.cell? ⟨g, 5, none⟩ = some (.int .i64 r.wrote) := (blk_cell h.blk 5).trans rfl
theorem EAt.fz (h : EAt w ok g r y) (i : Nat) : w.frozen? ⟨g, i, none⟩ = false := blk_frozen h.blk i
theorem EAt.gL (h : EAt w ok g r y) : y.L ≠ g := blk_ne h.sec h.blk (by decide)
theorem EAt.gR (h : EAt w ok g r y) (b : Nat) (hb : y.v.ownBlock = some b) : b ≠ g := by
  obtain ⟨c, hc⟩ := own_in h.row hb
  exact blk_ne hc h.blk (by decide)
theorem EAt.LR (h : EAt w ok g r y) (b : Nat) (hb : y.v.ownBlock = some b) : b ≠ y.L := by
  obtain ⟨c, hc⟩ := own_in h.row hb
  exact blk_ne hc h.sec (by decide)
/-- A cell of the reference's own is set. -/
theorem EAt.put (h : EAt w ok g r y) (i : Nat) (u : Value) (r' : E) (hl : r'.sector = r.sector) (hw : r'.row = r.row) (e : (r.cells y).setIfInBounds i u = r'.cells y) : EAt (w.setCell ⟨g, i, none⟩ u) ok g r' y := by
  have far : ∀ k, k ≠ g → (w.setCell ⟨g, i, none⟩ u).heap[k]? = w.heap[k]? := fun k hk => Below.heap_setCell w ⟨g, i, none⟩ u k hk
  exact {
    blk := blk_put h.blk i u e
    sec := by rw [hl]; exact (far _ h.gL).trans h.sec
    row := by rw [hw]; exact own_move h.row (fun b hb => far b (h.gR b hb))
    okg := h.okg
    okL := h.okL
    okR := h.okR
    len := by rw [hl]; exact h.len
    few := by rw [hw]; exact h.few
    inr := by rw [hw, hl]; exact h.inr }
/-- The reference is another one. -/
def EDoes (ok : Nat → Prop) (g : Nat) (r : E) (v : Value) (w : World) (e : Ending) (w' : World) : Prop := e = .returned v ∧ (∃ y, EAt w' (fun k => ok k ∨ w.heap.size ≤ k) g r y) ∧ Turn ok w w'
theorem EDoes.of {v v' : Value} {e : Ending} (hd : r = r') (hv : v = v') (he : e = .returned v') (hy : EAt w' ok g r' y) (ht : Turn ok w w') : EDoes ok g r v w e w' := by
  subst hd; subst hv
  exact ⟨he, ⟨y, hy.move (fun _ _ _ => rfl) (fun _ h _ => .inl h)⟩, ht⟩
theorem ecut_calls (w : World) (h : EAt w ok g r y) : Calls Try.prog 104 #[.pointer (some ⟨g, 0, none⟩)] w (EDoes ok g r.cut.1 (.int .i64 r.cut.2) w) := by
  have z2 := h.z2
  have f3 := h.fz 3
  have f2 := h.fz 2
  have z3 := h.z3
  have HD := Aside0.mk h
  have okg := h.okg
  clear h
  cases ho : r.off
  · rw [ho] at z2
    have e : r.cut = ({ r with off := true, left := 0 }, 0) := by unfold E.cut; rw [if_neg (by rw [ho]; decide)]
    rw [e]
    clear ho e
    go_enter Try.func104, Try.ntmps104
    go_wp2
    go_ret
    exact EDoes.of rfl rfl rfl ((HD.out.put 2 (.bool true) { r with off := true } rfl rfl rfl).put 3 (.int .i64 0) _ rfl rfl rfl) (((Turn.refl _ _).set (.inl okg) _).set (.inl okg) _)
  · rw [ho] at z2
    have e : r.cut = (r, 6) := by unfold E.cut; rw [if_pos ho]
    rw [e]
    clear ho e
    go_enter Try.func104, Try.ntmps104
    go_wp2
    go_ret
    exact EDoes.of rfl rfl rfl HD.out (Turn.refl _ _)
theorem efused_calls (w : World) (h : EAt w ok g r y) (n : Int) : Calls Try.prog 103 #[.pointer (some ⟨g, 0, none⟩), .int .i64 n] w (EDoes ok g (r.fused n).1 (.int .i64 (r.fused n).2) w) := by
  have z2 := h.z2
  have f3 := h.fz 3
  have z3 := h.z3
  have HD := Aside0.mk h
  have okg := h.okg
  clear h
  cases ho : r.off
  · rw [ho] at z2
    by_cases hn : n < 1
    · have e : r.fused n = ({ r with left := 0 }, 0) := by unfold E.fused; rw [if_neg (by rw [ho]; decide), if_pos hn]
      rw [e]
      clear ho e
      go_enter Try.func103, Try.ntmps103
      go_wp2
      go_ret
      exact EDoes.of rfl rfl rfl ((HD.out.put 3 (.int .i64 n) { r with left := n } rfl rfl rfl).put 3 (.int .i64 0) _ rfl rfl rfl) (((Turn.refl _ _).set (.inl okg) _).set (.inl okg) _)
    · have e : r.fused n = ({ r with left := n }, 0) := by unfold E.fused; rw [if_neg (by rw [ho]; decide), if_neg hn]
      rw [e]
      clear ho e
      go_enter Try.func103, Try.ntmps103
      go_wp2
      go_ret
      exact EDoes.of rfl rfl rfl (HD.out.put 3 (.int .i64 n) { r with left := n } rfl rfl rfl) ((Turn.refl _ _).set (.inl okg) _)
  · rw [ho] at z2
    have e : r.fused n = (r, 6) := by unfold E.fused; rw [if_pos ho]
    rw [e]
    clear ho e
    go_enter Try.func103, Try.ntmps103
    go_wp2
    go_ret
    exact EDoes.of rfl rfl rfl HD.out (Turn.refl _ _)
theorem estep_calls (w : World) (h : EAt w ok g r y) (hf : 0 ≤ r.left) (hf2 : r.left ≤ 9223372036854775807) (hs : 0 ≤ r.count) (hs2 : r.count ≤ 1000000000) : Calls Try.prog 133 #[.pointer (some ⟨g, 0, none⟩)] w (EDoes ok g r.step.1 (.bool r.step.2) w) := by
  have z2 := h.z2
  have z3 := h.z3
  have z4 := h.z4
  have f2 := h.fz 2
  have f3 := h.fz 3
  have f4 := h.fz 4
  have HD := Aside0.mk h
  have okg := h.okg
  clear h
  cases ho : r.off
  · rw [ho] at z2
    by_cases h1 : r.left = 1
    · have e : r.step = ({ r with count := r.count + 1, off := true, left := 0 }, false) := by unfold E.step; rw [if_neg (by rw [ho]; decide), if_pos h1]
      rw [e]
      have D2 := Aside0.mk (((HD.out.put 4 (.int .i64 (r.count + 1)) { r with count := r.count + 1 } rfl rfl rfl).put 2 (.bool true) { r with count := r.count + 1, off := true } rfl rfl rfl).put 3 (.int .i64 0) { r with count := r.count + 1, off := true, left := 0 } rfl rfl rfl)
      rw [h1] at z3
      clear ho e h1 hf hf2 HD
      generalize r.count = st at z4 hs hs2 D2
      go_enter Try.func133, Try.ntmps133
      go_wp2
      go_ret
      exact EDoes.of rfl rfl rfl D2.out ((((Turn.refl _ _).set (.inl okg) _).set (.inl okg) _).set (.inl okg) _)
    · by_cases h0 : 1 < r.left
      · have e : r.step = ({ r with count := r.count + 1, left := r.left - 1 }, true) := by unfold E.step; rw [if_neg (by rw [ho]; decide), if_neg h1, if_pos h0]
        rw [e]
        have hb : (r.left == 1) = false := beq_eq_false_iff_ne.mpr h1
        have D2 := Aside0.mk ((HD.out.put 4 (.int .i64 (r.count + 1)) { r with count := r.count + 1 } rfl rfl rfl).put 3 (.int .i64 (r.left - 1)) { r with count := r.count + 1, left := r.left - 1 } rfl rfl rfl)
        clear ho e h1 HD
        generalize r.count = st at z4 hs hs2 D2
        generalize r.left = fu at z3 hf hf2 D2 hb h0
        go_enter Try.func133, Try.ntmps133
        go_wp2
        go_ret
        exact EDoes.of rfl rfl rfl D2.out (((Turn.refl _ _).set (.inl okg) _).set (.inl okg) _)
      · have e : r.step = ({ r with count := r.count + 1 }, true) := by unfold E.step; rw [if_neg (by rw [ho]; decide), if_neg h1, if_neg h0]
        rw [e]
        have hb : (r.left == 1) = false := beq_eq_false_iff_ne.mpr h1
        have D2 := Aside0.mk (HD.out.put 4 (.int .i64 (r.count + 1)) { r with count := r.count + 1 } rfl rfl rfl)
        clear ho e h1 HD
        generalize r.count = st at z4 hs hs2 D2
        generalize r.left = fu at z3 hf hf2 D2 hb h0 ⊢
        go_enter Try.func133, Try.ntmps133
        go_wp2
        go_ret
        exact EDoes.of rfl rfl rfl D2.out ((Turn.refl _ _).set (.inl okg) _)
  · rw [ho] at z2
    have e : r.step = (r, false) := by unfold E.step; rw [if_pos ho]
    rw [e]
    clear ho e
    go_enter Try.func133, Try.ntmps133
    go_wp2
    go_ret
    exact EDoes.of rfl rfl rfl HD.out (Turn.refl _ _)
end
end Go.Proofs.Ytjbkkmgkckopdaa.Dv
