/- The device: one act. -/
import Derived.Test.YtjbkkmgkckopdaaDevJ
namespace Go.Proofs.Ytjbkkmgkckopdaa.Dv
open Go.WideShapes (bytes_inj)
open Go.Proofs.Ytjbkkmgkckopdaa.PN (bcell)
open Go.RowKit Go.Proofs.YtjbkkmgkckopdaaW.PrintWords Go.Proofs.YtjbkkmgkckopdaaW.PrintLast Go.Proofs.YtjbkkmgkckopdaaW.PrintMore Go.Proofs.Ytjbkkmgkckopdaa.Mem
set_option linter.unusedVariables false
set_option linter.unusedSimpArgs false
/-- One act on the device. -/
def D.act (d : D) (a : A) : D × Int := if a.kind = 1 then d.write a.i a.txt else if a.kind = 2 then d.sync else if a.kind = 3 then d.fused a.n else if a.kind = 4 then d.cut else if a.kind = 5 then d.start a.picks else (d, (d.read a.i).2)
def E.act (r : E) (a : A) : E × Int := if a.kind = 1 then r.write a.i a.txt else if a.kind = 2 then r.sync else if a.kind = 3 then r.fused a.n else if a.kind = 4 then r.cut else if a.kind = 5 then r.start a.picks else (r, (r.read a.i).2)
theorem sim_act {d : D} {r : E} (h : Sim d r) (a : A) : Sim (d.act a).1 (r.act a).1 ∧ (d.act a).2 = (r.act a).2 := by
  unfold D.act E.act
  split
  · exact sim_write h _ _
  split
  · exact sim_sync h
  split
  · exact sim_fused h _
  split
  · exact sim_cut h
  split
  · exact sim_start h _
  · exact ⟨h, by rw [sim_read h]⟩
/-- The numbers are small. -/
structure Bd (d : D) (k : Nat) : Prop where
  f0 : 0 ≤ d.fuse
  f2 : d.fuse ≤ 9223372036854775807
  s0 : 0 ≤ d.steps
  s2 : d.steps ≤ k
  w0 : 0 ≤ d.writes
  w2 : d.writes ≤ k
  few : ∀ n, (look d.waits n).length ≤ k
theorem Bd.more {d : D} {k : Nat} (h : Bd d k) : Bd d (k + 1) := ⟨h.f0, h.f2, h.s0, by have := h.s2; omega, h.w0, by have := h.w2; omega, fun n => Nat.le_succ_of_le (h.few n)⟩
theorem Bd.fresh (n : Nat) : Bd (Dv.fresh n) 0 := ⟨by simp [Dv.fresh], by simp [Dv.fresh], by simp [Dv.fresh], by simp [Dv.fresh], by simp [Dv.fresh], by simp [Dv.fresh], fun n => by simp [Dv.fresh, look]⟩
theorem Bd.step {d : D} {k : Nat} (h : Bd d k) : Bd d.step.1 (k + 1) := by
  have h1 := h.more
  have := h.s2
  have := h.f2
  have := h.f0
  have := h.s0
  unfold D.step
  split
  · exact h1
  split
  · exact ⟨by simp, by simp, by simp only; omega, by simp only; omega, h1.w0, h1.w2, h1.few⟩
  · exact ⟨by simp only; omega, by simp only; omega, by simp only; omega, by simp only; omega, h1.w0, h1.w2, h1.few⟩
theorem Bd.act {d : D} {k : Nat} (h : Bd d k) (a : A) (hn : a.n ≤ 9223372036854775807) : Bd (d.act a).1 (k + 1) := by
  have h1 := h.more
  obtain ⟨k1, k2, k3⟩ := step_keeps d
  unfold D.act
  split
  · unfold D.write
    split
    · exact h1
    split
    · exact h.step
    · have hs := h.step
      refine ⟨hs.f0, hs.f2, hs.s0, hs.s2, ?_, ?_, fun n => ?_⟩
      · have := hs.w0; simp only; omega
      · have := h.w2; simp only [k3]; omega
      · simp only [look_more, k2]
        have := h.few n
        split
        · rw [List.length_append]; simp; omega
        · omega
  split
  · unfold D.sync
    split
    · exact h.step
    · have hs := h.step
      exact ⟨hs.f0, hs.f2, hs.s0, hs.s2, hs.w0, hs.w2, fun n => by simp [look]⟩
  split
  · unfold D.fused
    split
    · exact h1
    · exact ⟨by simp only; omega, by simp only; omega, h1.s0, h1.s2, h1.w0, h1.w2, h1.few⟩
  split
  · unfold D.cut
    split
    · exact h1
    · exact ⟨by simp, by simp, h1.s0, h1.s2, h1.w0, h1.w2, h1.few⟩
  split
  · unfold D.start
    split
    · exact h1
    · exact ⟨h1.f0, h1.f2, h1.s0, h1.s2, h1.w0, h1.w2, fun n => by simp [look]⟩
  · exact h1
/-- The device lies in what is new since w0. -/
def Fr (w0 : World) : Nat → Prop := fun k => w0.heap.size ≤ k
def Dev (w0 w : World) (g : Nat) (d : D) : Prop := (∃ y, DAt w (Fr w0) g d y) ∧ Below w0.heap.size w0 w
theorem Dev.does {w0 w w' : World} {ok : Nat → Prop} {g : Nat} {d d' : D} {v : Value} {e : Ending} (h : Dev w0 w g d) (hk : ∀ k, ok k → w0.heap.size ≤ k) (hd : Does ok g d' v w e w') : e = .returned v ∧ Dev w0 w' g d' := by
  obtain ⟨h1, ⟨y, h2⟩, h3⟩ := hd
  have hs := h.2.size
  exact ⟨h1, ⟨y, h2.move (fun _ _ _ => rfl) (fun k hk' _ => by rcases hk' with h | h; exact hk k h; exact Nat.le_trans hs h)⟩, h.2.trans (h3.below (fun k _ h => hk k h) hs)⟩
theorem Dev.later {w0 w w' : World} {g : Nat} {d : D} (h : Dev w0 w g d) (hb : Below w.heap.size w w') : Dev w0 w' g d := by
  obtain ⟨⟨y, h1⟩, h2⟩ := h
  exact ⟨⟨y, h1.quiet hb⟩, h2.trans (hb.mono h2.size)⟩
section
variable {ok : Nat → Prop} {g : Nat} {d : D} {y : Lay}
theorem Does.after {w w1 : World} {ok1 : Nat → Prop} {d' : D} {v : Value} {e : Ending} {w' : World} (hb : Below w.heap.size w w1) (hk : ∀ k, ok1 k → ok k ∨ w.heap.size ≤ k) (h : Does ok1 g d' v w1 e w') : Does ok g d' v w e w' := by
  obtain ⟨h1, ⟨y, h2⟩, h3⟩ := h
  have hs := hb.size
  exact ⟨h1, ⟨y, h2.move (fun _ _ _ => rfl) (fun k hk' _ => by rcases hk' with h | h; exact hk k h; exact .inr (Nat.le_trans hs h))⟩, (Turn.of_below hb ok).trans h3 (fun k hl h => by rcases hk k h with h | h; exact h; omega)⟩
theorem box_keep {w : World} {b : Nat} {kind i n c : Int} {text : S} {p : Option Addr} {pl pc : Nat} (h : w.heap[b]? = some (.cells #[.int .i64 kind, .int .i64 i, .int .i64 n, .int .u8 c, .string text, .slice p pl pc] 67 (0, 0))) : w.cell? ⟨b, 0, none⟩ = some (.int .i64 kind) ∧ w.cell? ⟨b, 1, none⟩ = some (.int .i64 i) ∧ w.cell? ⟨b, 2, none⟩ = some (.int .i64 n) ∧ w.cell? ⟨b, 3, none⟩ = some (.int .u8 c) ∧ w.cell? ⟨b, 4, none⟩ = some (.string text) ∧ w.cell? ⟨b, 5, none⟩ = some (.slice p pl pc) :=
  ⟨(blk_cell h 0).trans rfl, (blk_cell h 1).trans rfl, (blk_cell h 2).trans rfl, (blk_cell h 3).trans rfl, (blk_cell h 4).trans rfl, (blk_cell h 5).trans rfl⟩
set_option maxHeartbeats 4000000 in
set_option maxRecDepth 1000000 in
theorem does_calls (w : World) (h : DAt w ok g d y) (a : A) (p : Option Addr) (pc : Nat) (hp : Ints w ok p a.picks) (hpl : a.picks.length ≤ 9223372036854775807) {k : Nat} (hbd : Bd d k) (hk : k < 1000000) :
    Calls Try.prog 50 #[.pointer (some ⟨g, 0, none⟩), .agg (a.cells p pc)] w (Does ok g (d.act a).1 (.int .i64 (d.act a).2) w) := by
  have HT := Aside0.mk (text_calls a p pc)
  have HB := Aside0.mk (show Below w.heap.size w (w.alloc (.cells (a.cells p pc) 67)) from below_alloc (Below.refl _ _) _)
  have HX := Aside0.mk (blk_new w (.cells (a.cells p pc) 67))
  have HN := Aside0.mk h.narrow
  have HN1 := Aside0.mk (h.narrow.quiet (below_alloc (Below.refl _ w) (.cells (a.cells p pc) 67)))
  have HP1 := Aside0.mk (show Ints (w.alloc (.cells (a.cells p pc) 67)) (fun k => ok k ∧ k < w.heap.size) p a.picks from fun j hj => by
    obtain ⟨ad, h1, h2, h3⟩ := hp j hj
    exact ⟨ad, h1, (World.cell?_of_block (Below.heap_alloc _ _ _ (World.block_lt_of_cell? w _ h2))).trans h2, fun h4 => h3 h4.1⟩)
  have hbs2 := hbd.s2
  have hbw2 := hbd.w2
  have HBD := Aside0.mk hbd
  unfold D.act
  obtain ⟨kind, i, n, c, text, picks⟩ := a
  dsimp only at *
  generalize A.txt ⟨kind, i, n, c, text, picks⟩ = tx at HT ⊢
  unfold A.cells at *
  dsimp only at *
  have hk : kind = 1 ∨ kind = 2 ∨ kind = 3 ∨ kind = 4 ∨ kind = 5 ∨ (¬ kind = 1 ∧ ¬ kind = 2 ∧ ¬ kind = 3 ∧ ¬ kind = 4 ∧ ¬ kind = 5) := by omega
  rcases hk with rfl | rfl | rfl | rfl | rfl | ⟨k1, k2, k3, k4, k5⟩
  · rw [if_pos rfl]
    have HW := Aside0.mk (fun (W : World) (hW : DAt W (fun k => ok k ∧ k < w.heap.size) g d y) => write_calls W hW i tx hbd.f0 hbd.f2 hbd.s0 (by omega) hbd.w0 (by omega) (fun n => by have := hbd.few n; omega))
    generalize d.write i tx = dw at HW ⊢
    clear h hp hbd hbs2 hbw2
    go_enter Try.func50, Try.ntmps50
    go_wp2_with fail
    go_region_held3 (fun w' => w'.cell? ⟨w.heap.size, 0, none⟩ = some (.int .i64 1) ∧ w'.cell? ⟨w.heap.size, 1, none⟩ = some (.int .i64 i) ∧ w'.cell? ⟨w.heap.size, 2, none⟩ = some (.int .i64 n) ∧ w'.cell? ⟨w.heap.size, 3, none⟩ = some (.int .u8 c) ∧ w'.cell? ⟨w.heap.size, 4, none⟩ = some (.string text) ∧ w'.cell? ⟨w.heap.size, 5, none⟩ = some (.slice p picks.length pc)) (first | exact box_keep hx6 | exact box_keep hx7 | go_keep) ((first | (go_at_call 51; (with_reducible refine (HT.out _).mono ?_); rintro e w6 ⟨rfl, hb⟩; have hB6 := below_then (below_drew (below_alloc (Below.refl w.heap.size w) _)) (below_drew (below_alloc (Below.refl w.heap.size w) _)).size hb; have hx6 := (hb.block w.heap.size (by simp [World.drew])).trans HX.out) | (go_at_call 59; (with_reducible refine (HW.out _ (HN.out.quiet hB6)).mono ?_); rintro e w7 hd; obtain ⟨rfl, hd2⟩ := hd; have hx7 := (hd2.2.block w.heap.size (blk_lt hx6) (fun h => absurd h.2 (Nat.lt_irrefl _))).trans hx6)))
    have HD2 := Aside0.mk hd2
    clear hd2 hx6 hx7 hb
    go_wp2_with fail
    go_ret
    exact Does.after hB6 (fun k h => .inl h.1) ⟨rfl, HD2.out⟩
  · rw [if_neg (by decide), if_pos rfl]
    have HW := Aside0.mk (sync_calls _ HN1.out hbd.f0 hbd.f2 hbd.s0 (by omega))
    generalize d.sync = dw at HW ⊢
    clear h hp hbd hbs2 hbw2
    go_enter Try.func50, Try.ntmps50
    go_wp2_with fail
    refine (HW.out).mono ?_
    rintro e w1 hd
    obtain ⟨rfl, hd2⟩ := hd
    have HD2 := Aside0.mk hd2
    clear hd2
    go_wp2_with fail
    go_ret
    exact Does.after HB.out (fun k h => .inl h.1) ⟨rfl, HD2.out⟩
  · rw [if_neg (by decide), if_neg (by decide), if_pos rfl]
    have HW := Aside0.mk (fused_calls _ HN1.out n)
    generalize d.fused n = dw at HW ⊢
    clear h hp hbd hbs2 hbw2
    go_enter Try.func50, Try.ntmps50
    go_wp2_with fail
    refine (HW.out).mono ?_
    rintro e w1 hd
    obtain ⟨rfl, hd2⟩ := hd
    have HD2 := Aside0.mk hd2
    clear hd2
    go_wp2_with fail
    go_ret
    exact Does.after HB.out (fun k h => .inl h.1) ⟨rfl, HD2.out⟩
  · rw [if_neg (by decide), if_neg (by decide), if_neg (by decide), if_pos rfl]
    have HW := Aside0.mk (cut_calls _ HN1.out)
    generalize d.cut = dw at HW ⊢
    clear h hp hbd hbs2 hbw2
    go_enter Try.func50, Try.ntmps50
    go_wp2_with fail
    refine (HW.out).mono ?_
    rintro e w1 hd
    obtain ⟨rfl, hd2⟩ := hd
    have HD2 := Aside0.mk hd2
    clear hd2
    go_wp2_with fail
    go_ret
    exact Does.after HB.out (fun k h => .inl h.1) ⟨rfl, HD2.out⟩
  · rw [if_neg (by decide), if_neg (by decide), if_neg (by decide), if_neg (by decide), if_pos rfl]
    have HW := Aside0.mk (start_calls _ HN1.out p picks pc HP1.out hpl)
    generalize d.start picks = dw at HW ⊢
    clear h hp hbd hbs2 hbw2
    go_enter Try.func50, Try.ntmps50
    go_wp2_with fail
    refine (HW.out).mono ?_
    rintro e w1 hd
    obtain ⟨rfl, hd2⟩ := hd
    have HD2 := Aside0.mk hd2
    clear hd2
    go_wp2_with fail
    go_ret
    exact Does.after HB.out (fun k h => .inl h.1) ⟨rfl, HD2.out⟩
  · rw [if_neg k1, if_neg k2, if_neg k3, if_neg k4, if_neg k5]
    have HW := Aside0.mk (read_calls _ HN1.out i)
    generalize d.read i = dw at HW ⊢
    clear hp hbd hbs2 hbw2 h
    go_enter Try.func50, Try.ntmps50
    go_wp2_with fail
    refine HW.out.mono ?_
    rintro e w1 ⟨rfl, rfl⟩
    go_wp2_with fail
    go_ret
    exact Does.after HB.out (fun k h => .inl h.1) ⟨rfl, ⟨y, HN1.out.move (fun _ _ _ => rfl) (fun _ h _ => .inl h)⟩, Turn.refl _ _⟩
end
end Go.Proofs.Ytjbkkmgkckopdaa.Dv
