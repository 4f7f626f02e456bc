/- The reference device: Write. -/
import Derived.Test.YtjbkkmgkckopdaaDevRB
import Derived.Deep.AppendLies
namespace Go.Proofs.Ytjbkkmgkckopdaa.Dv
open Go.RowKit Go.Proofs.YtjbkkmgkckopdaaW.PrintWords Go.Proofs.YtjbkkmgkckopdaaW.PrintLast Go.Proofs.YtjbkkmgkckopdaaW.PrintMore Go.Proofs.Ytjbkkmgkckopdaa.Mem
set_option linter.unusedVariables false
set_option linter.unusedSimpArgs false
theorem info144 : (Try.prog.info? 144).map (fun i => (i.zero, i.size, i.bytes)) = some (some (.agg #[.int .i64 0, .string ByteArray.empty]), 2, 24) := by kernel_rfl
theorem run_append_row {w : World} {p : Option Addr} {pc : Nat} {l : List (Nat × S)} (h : w.ownsRow 0 144 2 (.slice p l.length pc) l.length (pw_row l)) (c : Nat) (key : Nat) (s : S)
    (hc0 : w.cell? ⟨c, 0, none⟩ = some (.int .i64 (key : Int))) (hc1 : w.cell? ⟨c, 1, none⟩ = some (.string s)) (hl : l.length < 1000000) (ty : TypeId) :
    ∃ R cap w', (Builtin.append_ #[79, 79] ty #[.slice p l.length pc, .slice (some ⟨c, 0, none⟩) 1 1]).run Try.prog w = .ok (.slice (some ⟨R, 0, none⟩) (l.length + 1) cap) w' ∧
      w'.ownsRow 0 144 2 (.slice (some ⟨R, 0, none⟩) (l.length + 1) cap) (l.length + 1) (pw_row (l ++ [(key, s)])) ∧ w.grownBy w' (Value.slice p l.length pc).ownBlock ∧ ((Value.slice p l.length pc).ownBlock = some R ∨ R = w.heap.size) ∧ R < w'.heap.size := by
  obtain ⟨i, hi, hi2⟩ : ∃ i, Try.prog.info? 144 = some i ∧ (i.zero, i.size, i.bytes) = (some (.agg #[.int .i64 0, .string ByteArray.empty]), 2, 24) := by
    have := info144
    cases hh : Try.prog.info? 144 with
    | none => rw [hh] at this; cases this
    | some i => rw [hh] at this; exact ⟨i, rfl, by simpa using this⟩
  obtain ⟨hz, hs, hby⟩ : i.zero = some (.agg #[.int .i64 0, .string ByteArray.empty]) ∧ i.size = 2 ∧ i.bytes = 24 := by simpa using hi2
  have hnews : ∀ j u, ([.int .i64 (key : Int), .string s] : List Value)[j]? = some u → w.cell? ((⟨c, 0, none⟩ : Addr).add j) = some u := by
    intro j u hj
    match j with
    | 0 => rw [add_plain, ← Option.some.inj hj]; exact hc0
    | 1 => rw [add_plain, ← Option.some.inj hj]; exact hc1
    | j + 2 => simp at hj
  obtain ⟨R, cap, w', h1, h2, h3, h4, h5⟩ := run_append_lies (P := Try.prog) w 79 ty 0 144 i _ 2 24 Try.underlying79 hi hz hs hby rfl (by decide) _ l.length (pw_row l) h ⟨c, 0, none⟩ 1 1 [.int .i64 (key : Int), .string s] rfl hnews (by simp [Value.oneCell']) (by decide) (by rw [maxLen]; omega) (by omega) (Nat.zero_le _) w.heap.size rfl
  exact ⟨R, cap, w', h1, by rw [pw_row_snoc]; exact h2, h3, h4, h5⟩
theorem wpList_append_row {w : World} {ops : Array Oper} {rest : List Oper} {o : Oper} {a : Act} {Q : Exit → Act → World → Prop} (hgd : o.guard = none) (s x : Operand)
    (ho : o.op = .call { callee := .builtin .append, args := #[s, x], argTypes := #[79, 79] }) {p : Option Addr} {pc : Nat} {l : List (Nat × S)} (h : w.ownsRow 0 144 2 (.slice p l.length pc) l.length (pw_row l)) (hs : a.eval s = .slice p l.length pc)
    (c : Nat) (key : Nat) (st : S) (hx : a.eval x = .slice (some ⟨c, 0, none⟩) 1 1) (hc0 : w.cell? ⟨c, 0, none⟩ = some (.int .i64 (key : Int))) (hc1 : w.cell? ⟨c, 1, none⟩ = some (.string st)) (hlen : l.length < 1000000)
    (hK : ∀ R cap w', w'.ownsRow 0 144 2 (.slice (some ⟨R, 0, none⟩) (l.length + 1) cap) (l.length + 1) (pw_row (l ++ [(key, st)])) → w.grownBy w' (Value.slice p l.length pc).ownBlock → ((Value.slice p l.length pc).ownBlock = some R ∨ R = w.heap.size) → R < w'.heap.size →
      wpList Try.prog ops Q rest (a.put o.dst (.slice (some ⟨R, 0, none⟩) (l.length + 1) cap)) w') : wpList Try.prog ops Q (o :: rest) a w := by
  refine wpList_plain hgd fun K hK' => ?_
  obtain ⟨R, cap, w', hr, h2, h3, h4, h5⟩ := run_append_row h c key st hc0 hc1 hlen o.type
  unfold Oper.wp execOp
  simp only [ho, resolve, invoke, builtin, Sem.run_bind, Sem.run_pure, Result.andThen_ok, List.map_toArray, List.map_cons, List.map_nil, hs, hx, hr]
  exact hK' _ _ (hK R cap w' h2 h3 h4 h5)
section
variable {w w' : World} {ok : Nat → Prop} {g : Nat} {r : E} {y : ELay}
/-- One more write in the row. -/
theorem EAt.push (h : EAt w ok g r y) (hlt : g < w.heap.size) {n : Nat} {s : S} {R cap : Nat} (ho : w'.ownsRow 0 144 2 (.slice (some ⟨R, 0, none⟩) (r.row.length + 1) cap) (r.row.length + 1) (pw_row (r.row ++ [(n, s)]))) (hg : w.grownBy w' y.v.ownBlock)
    (ha : y.v.ownBlock = some R ∨ R = w.heap.size) (hf : r.row.length < 1000000) (hn : n < r.sector.length) :
    EAt (w'.setCell ⟨g, 1, none⟩ (.slice (some ⟨R, 0, none⟩) (r.row.length + 1) cap)) (fun k => ok k ∨ w.heap.size ≤ k) g { r with row := r.row ++ [(n, s)] } ⟨y.L, y.cap, y.rest, .slice (some ⟨R, 0, none⟩) (r.row.length + 1) cap⟩ := by
  have hb1 : w'.heap[g]? = some (.cells (r.cells y) 81 (0, 0)) := (hg.block g hlt (fun e => h.gR g e.symm rfl)).trans h.blk
  have hs1 : Strs w' y.L r.sector y.rest := (hg.block y.L (blk_lt h.sec) (fun e => h.LR y.L e.symm rfl)).trans h.sec
  have hR : R ≠ g := by
    obtain ⟨c, hc⟩ := own_in ho rfl
    exact blk_ne hc hb1 (by decide)
  have far : ∀ k, k ≠ g → (w'.setCell ⟨g, 1, none⟩ (.slice (some ⟨R, 0, none⟩) (r.row.length + 1) cap)).heap[k]? = w'.heap[k]? := fun k hk => Below.heap_setCell w' ⟨g, 1, none⟩ _ k hk
  exact {
    blk := blk_put hb1 1 _ rfl
    sec := (far _ h.gL).trans hs1
    row := by
      have := own_move ho (w' := w'.setCell ⟨g, 1, none⟩ (.slice (some ⟨R, 0, none⟩) (r.row.length + 1) cap)) (fun b hb => by cases hb; exact far _ hR)
      rw [List.length_append]
      exact this
    okg := .inl h.okg
    okL := .inl h.okL
    okR := fun b hb => by
      cases hb
      rcases ha with ha | ha
      · exact .inl (h.okR _ ha)
      · exact .inr (Nat.le_of_eq ha.symm)
    len := h.len
    few := by rw [List.length_append]; simp; omega
    inr := fun p hp => by
      rcases List.mem_append.1 hp with hp | hp
      · exact h.inr p hp
      · rw [List.mem_singleton.1 hp]; exact hn }
end
section
variable {ok : Nat → Prop} {g : Nat} {r : E} {y : ELay}
set_option maxHeartbeats 2000000 in
set_option maxRecDepth 1000000 in
theorem ewrite_calls (w : World) (h : EAt w ok g r y) (i : Int) (s : S) (hf : 0 ≤ r.left) (hf2 : r.left ≤ 9223372036854775807) (hs0 : 0 ≤ r.count) (hs2 : r.count ≤ 1000000000)
    (hw0 : 0 ≤ r.wrote) (hw2 : r.wrote ≤ 1000000000) (hfew : r.row.length < 1000000) :
    Calls Try.prog 101 #[.pointer (some ⟨g, 0, none⟩), .int .i64 i, .string s] w (EDoes ok g (r.write i s).1 (.int .i64 (r.write i s).2) w) := by
  have z0 := h.z0
  have HD := Aside0.mk h
  by_cases hc : i < 0 ∨ (r.sector.length : Int) ≤ i ∨ s.size ≠ 128
  · have e : r.write i s = (r, 1) := by unfold E.write; rw [if_pos hc]
    rw [e]
    have hc2 : i < 0 ∨ (¬ i < 0 ∧ (r.sector.length : Int) ≤ i) ∨ (¬ i < 0 ∧ ¬ (r.sector.length : Int) ≤ i ∧ ((s.size : Int) == 128) = false) := by
      by_cases h1 : i < 0
      · exact .inl h1
      by_cases h2 : (r.sector.length : Int) ≤ i
      · exact .inr (.inl ⟨h1, h2⟩)
      · exact .inr (.inr ⟨h1, h2, beq_eq_false_iff_ne.mpr (by omega)⟩)
    clear h e hc
    generalize r.sector.length = n at z0 hc2
    rcases hc2 with a1 | ⟨a1, a2⟩ | ⟨a1, a2, a3⟩
    · go_enter Try.func101, Try.ntmps101
      go_wp2_with fail
      go_ret
      exact EDoes.of rfl rfl rfl HD.out (Turn.refl _ _)
    · go_enter Try.func101, Try.ntmps101
      go_wp2_with fail
      go_ret
      exact EDoes.of rfl rfl rfl HD.out (Turn.refl _ _)
    · go_enter Try.func101, Try.ntmps101
      go_wp2_with fail
      go_ret
      exact EDoes.of rfl rfl rfl HD.out (Turn.refl _ _)
  · obtain ⟨n, rfl⟩ := Int.eq_ofNat_of_zero_le (show 0 ≤ i by omega)
    have a1 : ¬ (r.sector.length : Int) ≤ (n : Int) := by omega
    have a2 : (s.size : Int) = 128 := by omega
    have hn : n < r.sector.length := by omega
    have HS := Aside0.mk (estep_calls w h hf hf2 hs0 hs2)
    have hke : r.step.1.row = r.row ∧ r.step.1.sector = r.sector ∧ r.step.1.wrote = r.wrote := by unfold E.step; split; exact ⟨rfl, rfl, rfl⟩; split; exact ⟨rfl, rfl, rfl⟩; exact ⟨rfl, rfl, rfl⟩
    obtain ⟨k1, k2, k3⟩ := hke
    cases ho : r.step.2
    · have e : r.write (n : Int) s = (r.step.1, 6) := by unfold E.write; rw [if_neg hc, if_pos ho]
      rw [e]
      rw [ho] at HS
      clear h e hc hn k1 k2 k3
      generalize r.sector.length = m at z0 a1
      generalize r.step.1 = r1 at HS
      go_enter Try.func101, Try.ntmps101
      go_wp2_with fail
      refine HS.out.mono ?_
      rintro e w1 hd
      obtain ⟨rfl, hd2⟩ := hd
      have HD2 := Aside0.mk hd2
      clear hd2
      go_wp2_with fail
      go_ret
      exact ⟨rfl, HD2.out⟩
    · have e : r.write (n : Int) s = ({ r.step.1 with row := r.step.1.row ++ [(n, s)], wrote := r.step.1.wrote + 1 }, 0) := by unfold E.write; rw [if_neg hc, if_neg (by rw [ho]; decide)]; rfl
      rw [e]
      rw [ho] at HS
      rw [← k1] at hfew
      rw [← k3] at hw0 hw2
      have hn2 : n < r.step.1.sector.length := by rw [k2]; exact hn
      have okg := h.okg
      clear h e hc k1 k2 k3
      generalize hm : r.sector.length = m at z0 a1
      clear hm hn
      generalize r.step.1 = r1 at HS hfew hw0 hw2 hn2 ⊢
      go_enter Try.func101, Try.ntmps101
      go_wp2_with fail
      refine HS.out.mono ?_
      rintro e w1 hd
      obtain ⟨rfl, ⟨y1, hy⟩, ht⟩ := hd
      obtain ⟨p, pc, hv, hpc, _⟩ := row_form hy.row
      have hq := hy.quiet (below_alloc (Below.refl _ w1) (.cells #[.int .i64 (n : Int), .string s] 144))
      have hrow := hq.row
      rw [hv] at hrow
      have z1 : w1.cell? ⟨g, 1, none⟩ = some (.slice p r1.row.length pc) := by have := hy.z1; rw [hv] at this; exact this
      have HT := Aside0.mk ht
      have HQ := Aside0.mk hq
      have HRow := Aside0.mk hrow
      have hb0 : (w1.alloc (.cells #[.int .i64 (n : Int), .string s] 144)).cell? ⟨w1.heap.size, 0, none⟩ = some (.int .i64 (n : Int)) := (blk_cell (blk_new w1 (.cells #[.int .i64 (n : Int), .string s] 144)) 0).trans rfl
      have hb1 : (w1.alloc (.cells #[.int .i64 (n : Int), .string s] 144)).cell? ⟨w1.heap.size, 1, none⟩ = some (.string s) := (blk_cell (blk_new w1 (.cells #[.int .i64 (n : Int), .string s] 144)) 1).trans rfl
      have HB0 := Aside0.mk hb0
      have HB1 := Aside0.mk hb1
      have HV := Aside0.mk hv
      clear hq hrow hb0 hb1 hy ht HS hv
      go_wp2_with ((with_reducible refine gate_builtin (b := .append) (xs := #[.tmp 30, .tmp 34]) rfl ?_); refine wpList_append_row rfl (.tmp 30) (.tmp 34) rfl HRow.out rfl w1.heap.size n s rfl HB0.out HB1.out hfew ?_; intro R cap w4 ho4 hg4 ha4 hl4; rw [← HV.out] at hg4 ha4; have HE := Aside0.mk (HQ.out.push (blk_lt HQ.out.blk) ho4 hg4 ha4 hfew hn2); have hx4 : w4.cell? ⟨g, 1, none⟩ = some y1.v := (World.cell?_of_block (a := ⟨g, 1, none⟩) (hg4.block g (blk_lt HQ.out.blk) (fun e => HQ.out.gR g e.symm rfl))).trans HQ.out.z1; have fx4 : w4.frozen? ⟨g, 1, none⟩ = false := (World.frozen?_of_block (a := ⟨g, 1, none⟩) (hg4.block g (blk_lt HQ.out.blk) (fun e => HQ.out.gR g e.symm rfl))).trans (HQ.out.fz 1); have z5 := HE.out.z5; have f5 := HE.out.fz 5; have HG4 := Aside0.mk hg4; clear ho4 hg4 ha4 hl4)
      go_ret
      have hws := HT.out.size
      have hgk : ∀ k, y1.v.ownBlock = some k → ok k ∨ w.heap.size ≤ k := fun k e => HQ.out.okR k e
      refine ⟨rfl, ⟨_, (HE.out.put 5 (.int .i64 (r1.wrote + 1)) { r1 with row := r1.row ++ [(n, s)], wrote := r1.wrote + 1 } rfl rfl rfl).move (fun _ _ _ => rfl) (fun k hk _ => ?_)⟩, ?_⟩
      · rcases hk with h | h
        · exact h
        · simp at h; exact .inr (by omega)
      · have t1 : Turn ok w (w1.alloc (.cells #[.int .i64 (n : Int), .string s] 144)) := HT.out.alloc _
        have t2 : Turn ok w w4 := t1.trans (Turn.of_grown (ok := fun k => ok k ∨ w.heap.size ≤ k) HG4.out (fun k e => .inl (hgk k e))) (fun i hi h => by rcases h with h | h; exact h; omega)
        exact (t2.set (.inl okg) _).set (.inl okg) _
end
end Go.Proofs.Ytjbkkmgkckopdaa.Dv
