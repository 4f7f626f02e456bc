/- The device in memory; what is only asked of it. -/
import Derived.Test.YtjbkkmgkckopdaaDoorMem
import Derived.Test.YtjbkkmgkckopdaaDoorDevPure
import Derived.Test.YtjbkkmgkckopdaaDoorPN0
namespace Go.Proofs.YtjbkkmgkckopdaaDoor.Dv
open Go.RowKit Go.Proofs.YtjbkkmgkckopdaaDoorW.PrintWords Go.Proofs.YtjbkkmgkckopdaaDoorW.PrintLast Go.Proofs.YtjbkkmgkckopdaaDoorW.PrintMore Go.Proofs.YtjbkkmgkckopdaaDoor.Mem
set_option linter.unusedVariables false
set_option linter.unusedSimpArgs false
/-- An entry of the map of what waits: the sector, its writes, their row. -/
structure DEnt where
  key : Nat
  xs : List S
  g : Nat
  cap : Nat
  rest : List Value
  born : Nat
def DEnt.ent (e : DEnt) : Ent := ⟨(e.key : Int), .slice (some ⟨e.g, 0, none⟩) e.xs.length e.cap, e.born⟩
/-- Where the device's parts lie. -/
structure Lay where
  L : Nat
  cap : Nat
  rest : List Value
  M : Nat
  es : List DEnt
  clock : Nat
/-- The device d at block g; all its blocks are ok. -/
structure DAt (w : World) (ok : Nat → Prop) (g : Nat) (d : D) (y : Lay) : Prop where
  blk : w.heap[g]? = some (.cells #[.slice (some ⟨y.L, 0, none⟩) d.lasts.length y.cap, .map (some y.M), .bool d.off, .int .i64 d.fuse, .int .i64 d.steps, .int .i64 d.writes] 66 (0, 0))
  row : Strs w y.L d.lasts y.rest
  map : IMap w y.M (y.es.map DEnt.ent) y.clock
  rows : ∀ e ∈ y.es, Strs w e.g e.xs e.rest ∧ e.xs.length + e.rest.length = e.cap ∧ e.cap ≤ maxLen
  waits : d.waits = y.es.map (fun e => (e.key, e.xs))
  apart : (y.L :: y.es.map (·.g)).Nodup
  borns : (y.es.map (·.born)).Nodup
  old : ∀ e ∈ y.es, e.born < y.clock
  okg : ok g
  okL : ok y.L
  okM : ok y.M
  oke : ∀ e ∈ y.es, ok e.g
  good : d.Ok
  len : d.lasts.length ≤ 2048
  few : ∀ e ∈ y.es, e.xs.length ≤ 1000000
theorem DAt.move {w w' : World} {ok ok' : Nat → Prop} {g : Nat} {d : D} {y : Lay} (h : DAt w ok g d y) (hm : ∀ k, ok k → k < w.heap.size → w'.heap[k]? = w.heap[k]?) (hk : ∀ k, ok k → k < w.heap.size → ok' k) : DAt w' ok' g d y :=
  have lt : ∀ {k : Nat} {o : Obj}, w.heap[k]? = some o → k < w.heap.size := fun h => blk_lt h
  { blk := (hm g h.okg (lt h.blk)).trans h.blk
    row := (hm _ h.okL (lt h.row)).trans h.row
    map := (hm _ h.okM (lt h.map)).trans h.map
    rows := fun e he => ⟨(hm _ (h.oke e he) (lt (h.rows e he).1)).trans (h.rows e he).1, (h.rows e he).2⟩
    waits := h.waits
    apart := h.apart
    borns := h.borns
    old := h.old
    okg := hk _ h.okg (lt h.blk)
    okL := hk _ h.okL (lt h.row)
    okM := hk _ h.okM (lt h.map)
    oke := fun e he => hk _ (h.oke e he) (lt (h.rows e he).1)
    good := h.good
    len := h.len
    few := h.few }
theorem DAt.quiet {w w' : World} {ok : Nat → Prop} {g : Nat} {d : D} {y : Lay} (h : DAt w ok g d y) (hb : Below w.heap.size w w') : DAt w' ok g d y := h.move (fun k _ hk => hb.block k hk) (fun _ h _ => h)
theorem DAt.drewN {w : World} {ok : Nat → Prop} {g : Nat} {d : D} {y : Lay} (h : DAt w ok g d y) (n : Nat) : DAt (w.drewN n) ok g d y := h.move (fun _ _ _ => rfl) (fun _ h _ => h)
theorem DAt.narrow {w : World} {ok : Nat → Prop} {g : Nat} {d : D} {y : Lay} (h : DAt w ok g d y) : DAt w (fun k => ok k ∧ k < w.heap.size) g d y := h.move (fun _ _ _ => rfl) (fun _ h h' => ⟨h, h'⟩)
section
variable {w : World} {ok : Nat → Prop} {g : Nat} {d : D} {y : Lay}
theorem DAt.z0 (h : DAt w ok g d y) : w.cell? ⟨g, 0, none⟩ = some (.slice (some ⟨y.L, 0, none⟩) d.lasts.length y.cap) := (blk_cell h.blk 0).trans rfl
theorem DAt.z1 (h : DAt w ok g d y) : w.cell? ⟨g, 1, none⟩ = some (.map (some y.M)) := (blk_cell h.blk 1).trans rfl
theorem DAt.z2 (h : DAt w ok g d y) : w.cell? ⟨g, 2, none⟩ = some (.bool d.off) := (blk_cell h.blk 2).trans rfl
theorem DAt.z3 (h : DAt w ok g d y) : w.cell? ⟨g, 3, none⟩ = some (.int .i64 d.fuse) := (blk_cell h.blk 3).trans rfl
theorem DAt.z4 (h : DAt w ok g d y) : w.cell? ⟨g, 4, none⟩ = some (.int .i64 d.steps) := (blk_cell h.blk 4).trans rfl
theorem DAt.z5 (h : DAt w ok g d y) : w.cell? ⟨g, 5, none⟩ = some (.int .i64 d.writes) := (blk_cell h.blk 5).trans rfl
theorem DAt.fz (h : DAt w ok g d y) (i : Nat) : w.frozen? ⟨g, i, none⟩ = false := blk_frozen h.blk i
end
/-- A value is told, nothing turns. -/
def Say (v : Value) (w : World) (e : Ending) (w' : World) : Prop := e = .returned v ∧ w = w'
theorem Say.of {v v' : Value} {w w' : World} {e : Ending} (hv : v = v') (he : e = .returned v') (hw : w = w') : Say v w e w' := by subst hv; exact ⟨he, hw⟩
/-- A value is told, the device is another one. -/
def Does (ok : Nat → Prop) (g : Nat) (d : D) (v : Value) (w : World) (e : Ending) (w' : World) : Prop := e = .returned v ∧ (∃ y, DAt w' (fun k => ok k ∨ w.heap.size ≤ k) g d y) ∧ Turn ok w w'
theorem Does.of {ok : Nat → Prop} {g : Nat} {d d' : D} {v v' : Value} {w w' : World} {e : Ending} (hd : d = d') (hv : v = v') (he : e = .returned v') {y : Lay} (hy : DAt w' ok g d' y) (ht : Turn ok w w') : Does ok g d v w e w' := by
  subst hd; subst hv
  exact ⟨he, ⟨y, hy.move (fun _ _ _ => rfl) (fun _ h _ => .inl h)⟩, ht⟩
/-- A number of the device's is set. -/
theorem DAt.put {w : World} {ok : Nat → Prop} {g : Nat} {d : D} {y : Lay} (h : DAt w ok g d y) (i : Nat) (u : Value) (d' : D) (hl : d'.lasts = d.lasts) (hw : d'.waits = d.waits)
    (e : (#[.slice (some ⟨y.L, 0, none⟩) d.lasts.length y.cap, .map (some y.M), .bool d.off, .int .i64 d.fuse, .int .i64 d.steps, .int .i64 d.writes] : Array Value).setIfInBounds i u = #[.slice (some ⟨y.L, 0, none⟩) d.lasts.length y.cap, .map (some y.M), .bool d'.off, .int .i64 d'.fuse, .int .i64 d'.steps, .int .i64 d'.writes]) :
    DAt (w.setCell ⟨g, i, none⟩ u) ok g d' y := by
  have hgL : y.L ≠ g := by
    rintro rfl
    have h1 := h.row
    unfold Strs at h1
    rw [h.blk] at h1
    injection h1 with h1
    injection h1 with _ h1
    cases h1
  have hgM : y.M ≠ g := by
    rintro rfl
    have h1 := h.map
    unfold IMap at h1
    rw [h.blk] at h1
    cases h1
  have hge : ∀ e ∈ y.es, e.g ≠ g := by
    rintro e he rfl
    have h1 := (h.rows e he).1
    unfold Strs at h1
    rw [h.blk] at h1
    injection h1 with h1
    injection h1 with _ h1
    cases h1
  have far : ∀ k, k ≠ g → (w.setCell ⟨g, i, none⟩ u).heap[k]? = w.heap[k]? := fun k hk => Below.heap_setCell w ⟨g, i, none⟩ u k hk
  exact {
    blk := by rw [hl]; exact blk_put h.blk i u e
    row := by rw [hl]; exact (far _ hgL).trans h.row
    map := (far _ hgM).trans h.map
    rows := fun e he => ⟨(far _ (hge e he)).trans (h.rows e he).1, (h.rows e he).2⟩
    waits := hw.trans h.waits
    apart := h.apart
    borns := h.borns
    old := h.old
    okg := h.okg
    okL := h.okL
    okM := h.okM
    oke := h.oke
    good := ⟨by rw [hw]; exact h.good.1, by rw [hw, hl]; exact h.good.2⟩
    len := by rw [hl]; exact h.len
    few := h.few }
section
variable {ok : Nat → Prop} {g : Nat} {d : D} {y : Lay}
theorem size_calls (w : World) (h : DAt w ok g d y) : Calls Tryd.prog 29 #[.pointer (some ⟨g, 0, none⟩)] w (Say (.int .i64 d.lasts.length) w) := by
  have z0 := h.z0
  clear h
  go_enter Tryd.func29, Tryd.ntmps29
  go_wp2
  go_ret
  exact ⟨rfl, rfl⟩
theorem on_calls (w : World) (h : DAt w ok g d y) : Calls Tryd.prog 24 #[.pointer (some ⟨g, 0, none⟩)] w (Say (.bool (!d.off)) w) := by
  have z2 := h.z2
  clear h
  cases ho : d.off
  all_goals
    rw [ho] at z2
    go_enter Tryd.func24, Tryd.ntmps24
    go_wp2
    go_ret
    exact ⟨rfl, rfl⟩
theorem steps_calls (w : World) (h : DAt w ok g d y) : Calls Tryd.prog 27 #[.pointer (some ⟨g, 0, none⟩)] w (Say (.int .i64 d.steps) w) := by
  have z4 := h.z4
  clear h
  go_enter Tryd.func27, Tryd.ntmps27
  go_wp2
  go_ret
  exact ⟨rfl, rfl⟩
theorem is_no (w : World) (h : DAt w ok g d y) (i : Int) (hi : i < 0 ∨ (d.lasts.length : Int) ≤ i) : Calls Tryd.prog 33 #[.pointer (some ⟨g, 0, none⟩), .int .i64 i] w (Say (.bool false) w) := by
  have z0 := h.z0
  clear h
  by_cases h1 : i < 0
  · have b1 : decide ((0 : Int) ≤ i) = false := decide_eq_false (by omega)
    clear hi
    go_enter Tryd.func33, Tryd.ntmps33
    go_wp2
    go_ret
    exact ⟨rfl, rfl⟩
  · have b0 : (0 : Int) ≤ i := by omega
    have b1 : decide ((0 : Int) ≤ i) = true := decide_eq_true (by omega)
    have b2 : decide (i < (d.lasts.length : Int)) = false := decide_eq_false (by omega)
    have b3 : ¬ i < (d.lasts.length : Int) := by omega
    clear hi
    go_enter Tryd.func33, Tryd.ntmps33
    go_wp2
    go_ret
    exact ⟨rfl, rfl⟩
theorem is_yes (w : World) (h : DAt w ok g d y) (i : Int) (h0 : 0 ≤ i) (h1 : i < (d.lasts.length : Int)) : Calls Tryd.prog 33 #[.pointer (some ⟨g, 0, none⟩), .int .i64 i] w (Say (.bool true) w) := by
  have z0 := h.z0
  clear h
  have b1 : decide ((0 : Int) ≤ i) = true := decide_eq_true (by omega)
  have b2 : decide (i < (d.lasts.length : Int)) = true := decide_eq_true (by omega)
  go_enter Tryd.func33, Tryd.ntmps33
  go_wp2
  go_ret
  exact ⟨rfl, rfl⟩
theorem fused_calls (w : World) (h : DAt w ok g d y) (n : Int) : Calls Tryd.prog 23 #[.pointer (some ⟨g, 0, none⟩), .int .i64 n] w (Does ok g (d.fused n).1 (.int .i64 (d.fused n).2) w) := by
  have z2 := h.z2
  have f3 := h.fz 3
  have z3 := h.z3
  have HD := Aside0.mk h
  have okg := h.okg
  clear h
  cases ho : d.off
  · rw [ho] at z2
    have e : d.fused n = ({ d with fuse := max 0 n }, 0) := by unfold D.fused; rw [if_neg (by rw [ho]; decide)]
    rw [e]
    have HO := Aside0.mk ho
    clear ho e
    by_cases hn : 0 < n
    · go_enter Tryd.func23, Tryd.ntmps23
      go_wp2
      go_ret
      exact Does.of rfl rfl rfl (HD.out.put 3 _ _ rfl rfl (by simp; omega)) ((Turn.refl _ _).set (.inl okg) _)
    · go_enter Tryd.func23, Tryd.ntmps23
      go_wp2
      go_ret
      exact Does.of rfl rfl rfl (HD.out.put 3 _ _ rfl rfl (by simp; omega)) ((Turn.refl _ _).set (.inl okg) _)
  · rw [ho] at z2
    have e : d.fused n = (d, 6) := by unfold D.fused; rw [if_pos ho]
    rw [e]
    clear ho e
    go_enter Tryd.func23, Tryd.ntmps23
    go_wp2
    go_ret
    exact Does.of rfl rfl rfl HD.out (Turn.refl _ _)
theorem cut_calls (w : World) (h : DAt w ok g d y) : Calls Tryd.prog 25 #[.pointer (some ⟨g, 0, none⟩)] w (Does ok g d.cut.1 (.int .i64 d.cut.2) w) := by
  have z2 := h.z2
  have f3 := h.fz 3
  have f2 := h.fz 2
  have z3 := h.z3
  have HD := Aside0.mk h
  have okg := h.okg
  clear h
  cases ho : d.off
  · rw [ho] at z2
    have e : d.cut = ({ d with off := true, fuse := 0 }, 0) := by unfold D.cut; rw [if_neg (by rw [ho]; decide)]
    rw [e]
    clear ho e
    go_enter Tryd.func25, Tryd.ntmps25
    go_wp2
    go_ret
    exact Does.of rfl rfl rfl ((HD.out.put 2 (.bool true) { d with off := true } rfl rfl rfl).put 3 (.int .i64 0) _ rfl rfl rfl) (((Turn.refl _ _).set (.inl okg) _).set (.inl okg) _)
  · rw [ho] at z2
    have e : d.cut = (d, 6) := by unfold D.cut; rw [if_pos ho]
    rw [e]
    clear ho e
    go_enter Tryd.func25, Tryd.ntmps25
    go_wp2
    go_ret
    exact Does.of rfl rfl rfl HD.out (Turn.refl _ _)
theorem step_calls (w : World) (h : DAt w ok g d y) (hf : 0 ≤ d.fuse) (hf2 : d.fuse ≤ 9223372036854775807) (hs : 0 ≤ d.steps) (hs2 : d.steps ≤ 1000000000) : Calls Tryd.prog 34 #[.pointer (some ⟨g, 0, none⟩)] w (Does ok g d.step.1 (.bool d.step.2) w) := by
  have z2 := h.z2
  have z3 := h.z3
  have z4 := h.z4
  have f2 := h.fz 2
  have f3 := h.fz 3
  have f4 := h.fz 4
  have HD := Aside0.mk h
  have okg := h.okg
  clear h
  cases ho : d.off
  · rw [ho] at z2
    by_cases h1 : d.fuse = 1
    · have e : d.step = ({ d with steps := d.steps + 1, off := true, fuse := 0 }, false) := by unfold D.step; rw [if_neg (by rw [ho]; decide), if_pos h1]
      rw [e]
      have D2 := Aside0.mk (((HD.out.put 4 (.int .i64 (d.steps + 1)) { d with steps := d.steps + 1 } rfl rfl rfl).put 2 (.bool true) { d with steps := d.steps + 1, off := true } rfl rfl rfl).put 3 (.int .i64 0) { d with steps := d.steps + 1, off := true, fuse := 0 } rfl rfl rfl)
      rw [h1] at z3
      clear ho e h1 hf hf2 HD
      generalize d.steps = st at z4 hs hs2 D2
      go_enter Tryd.func34, Tryd.ntmps34
      go_wp2
      go_ret
      exact Does.of rfl rfl rfl D2.out ((((Turn.refl _ _).set (.inl okg) _).set (.inl okg) _).set (.inl okg) _)
    · have e : d.step = ({ d with steps := d.steps + 1, fuse := max 0 (d.fuse - 1) }, true) := by unfold D.step; rw [if_neg (by rw [ho]; decide), if_neg h1]
      rw [e]
      have hb : (d.fuse == 1) = false := beq_eq_false_iff_ne.mpr h1
      have D2 := Aside0.mk (fun m (hm : max 0 (d.fuse - 1) = m) => (HD.out.put 4 (.int .i64 (d.steps + 1)) { d with steps := d.steps + 1 } rfl rfl rfl).put 3 (.int .i64 m) { d with steps := d.steps + 1, fuse := max 0 (d.fuse - 1) } rfl rfl (by simp [hm]))
      clear ho e h1 HD
      generalize d.steps = st at z4 hs hs2 D2
      generalize d.fuse = fu at z3 hf hf2 D2 hb
      by_cases h0 : 0 < fu - 1
      · go_enter Tryd.func34, Tryd.ntmps34
        go_wp2
        go_ret
        exact Does.of rfl rfl rfl (D2.out _ (by omega)) (((Turn.refl _ _).set (.inl okg) _).set (.inl okg) _)
      · go_enter Tryd.func34, Tryd.ntmps34
        go_wp2
        go_ret
        exact Does.of rfl rfl rfl (D2.out _ (by omega)) (((Turn.refl _ _).set (.inl okg) _).set (.inl okg) _)
  · rw [ho] at z2
    have e : d.step = (d, false) := by unfold D.step; rw [if_pos ho]
    rw [e]
    clear ho e
    go_enter Tryd.func34, Tryd.ntmps34
    go_wp2
    go_ret
    exact Does.of rfl rfl rfl HD.out (Turn.refl _ _)
end
end Go.Proofs.YtjbkkmgkckopdaaDoor.Dv
