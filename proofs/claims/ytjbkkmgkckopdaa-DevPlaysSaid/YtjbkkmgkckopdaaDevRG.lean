/- The reference device: one act. -/
import Derived.Test.YtjbkkmgkckopdaaDevRF
import Derived.Test.YtjbkkmgkckopdaaDevK
namespace Go.Proofs.Ytjbkkmgkckopdaa.Dv
open Go.WideShapes (bytes_inj)
open Go.Proofs.Ytjbkkmgkckopdaa.PN (bcell)
open Go.RowKit Go.Proofs.YtjbkkmgkckopdaaW.PrintWords Go.Proofs.YtjbkkmgkckopdaaW.PrintLast Go.Proofs.YtjbkkmgkckopdaaW.PrintMore Go.Proofs.Ytjbkkmgkckopdaa.Mem
set_option linter.unusedVariables false
set_option linter.unusedSimpArgs false
/-- The reference's numbers are small. -/
structure EBd (r : E) (k : Nat) : Prop where
  f0 : 0 ≤ r.left
  f2 : r.left ≤ 9223372036854775807
  s0 : 0 ≤ r.count
  s2 : r.count ≤ k
  w0 : 0 ≤ r.wrote
  w2 : r.wrote ≤ k
  few : r.row.length ≤ k
theorem EBd.fresh (n : Nat) : EBd (efresh n) 0 := ⟨by simp [efresh], by simp [efresh], by simp [efresh], by simp [efresh], by simp [efresh], by simp [efresh], by simp [efresh]⟩
theorem row_act (r : E) (a : A) : (r.act a).1.row.length ≤ r.row.length + 1 := by
  have hs : r.step.1.row = r.row := by unfold E.step; split; rfl; split; rfl; rfl
  unfold E.act E.write E.sync E.fused E.cut E.start
  repeat' split
  all_goals simp [hs]
  all_goals omega
/-- It is as bounded as the device that it agrees with. -/
theorem EBd.of {d : D} {r : E} {k : Nat} (h : Sim d r) (hb : Bd d k) (hr : r.row.length ≤ k) : EBd r k :=
  ⟨by rw [← h.fuse]; exact hb.f0, by rw [← h.fuse]; exact hb.f2, by rw [← h.steps]; exact hb.s0, by rw [← h.steps]; exact hb.s2, by rw [← h.writes]; exact hb.w0, by rw [← h.writes]; exact hb.w2, hr⟩
section
variable {ok : Nat → Prop} {g : Nat} {d : E} {y : ELay}
theorem EDoes.after {w w1 : World} {ok1 : Nat → Prop} {d' : E} {v : Value} {e : Ending} {w' : World} (hb : Below w.heap.size w w1) (hk : ∀ k, ok1 k → ok k ∨ w.heap.size ≤ k) (h : EDoes ok1 g d' v w1 e w') : EDoes ok g d' v w e w' := by
  obtain ⟨h1, ⟨y, h2⟩, h3⟩ := h
  have hs := hb.size
  exact ⟨h1, ⟨y, h2.move (fun _ _ _ => rfl) (fun k hk' _ => by rcases hk' with h | h; exact hk k h; exact .inr (Nat.le_trans hs h))⟩, (Turn.of_below hb ok).trans h3 (fun k hl h => by rcases hk k h with h | h; exact h; omega)⟩
set_option maxHeartbeats 4000000 in
set_option maxRecDepth 1000000 in
theorem means_calls (w : World) (h : EAt w ok g d y) (a : A) (p : Option Addr) (pc : Nat) (hp : Ints w ok p a.picks) (hpl : a.picks.length ≤ 9223372036854775807) {k : Nat} (hbd : EBd d k) (hk : k < 1000000) :
    Calls Try.prog 63 #[.pointer (some ⟨g, 0, none⟩), .agg (a.cells p pc)] w (EDoes ok g (d.act a).1 (.int .i64 (d.act a).2) w) := by
  have HT := Aside0.mk (text_calls a p pc)
  have HB := Aside0.mk (show Below w.heap.size w (w.alloc (.cells (a.cells p pc) 67)) from below_alloc (Below.refl _ _) _)
  have HX := Aside0.mk (blk_new w (.cells (a.cells p pc) 67))
  have HN := Aside0.mk h.narrow
  have HN1 := Aside0.mk (h.narrow.quiet (below_alloc (Below.refl _ w) (.cells (a.cells p pc) 67)))
  have HP1 := Aside0.mk (show Ints (w.alloc (.cells (a.cells p pc) 67)) (fun k => ok k ∧ k < w.heap.size) p a.picks from fun j hj => by
    obtain ⟨ad, h1, h2, h3⟩ := hp j hj
    exact ⟨ad, h1, (World.cell?_of_block (Below.heap_alloc _ _ _ (World.block_lt_of_cell? w _ h2))).trans h2, fun h4 => h3 h4.1⟩)
  have hbs2 := hbd.s2
  have hbw2 := hbd.w2
  have HBD := Aside0.mk hbd
  unfold E.act
  obtain ⟨kind, i, n, c, text, picks⟩ := a
  dsimp only at *
  generalize A.txt ⟨kind, i, n, c, text, picks⟩ = tx at HT ⊢
  unfold A.cells at *
  dsimp only at *
  have hk : kind = 1 ∨ kind = 2 ∨ kind = 3 ∨ kind = 4 ∨ kind = 5 ∨ (¬ kind = 1 ∧ ¬ kind = 2 ∧ ¬ kind = 3 ∧ ¬ kind = 4 ∧ ¬ kind = 5) := by omega
  rcases hk with rfl | rfl | rfl | rfl | rfl | ⟨k1, k2, k3, k4, k5⟩
  · rw [if_pos rfl]
    have HW := Aside0.mk (fun (W : World) (hW : EAt W (fun k => ok k ∧ k < w.heap.size) g d y) => ewrite_calls W hW i tx hbd.f0 hbd.f2 hbd.s0 (by omega) hbd.w0 (by omega) (by have := hbd.few; omega))
    generalize d.write i tx = dw at HW ⊢
    clear h hp hbd hbs2 hbw2
    go_enter Try.func63, Try.ntmps63
    go_wp2_with fail
    go_region_held3 (fun w' => w'.cell? ⟨w.heap.size, 0, none⟩ = some (.int .i64 1) ∧ w'.cell? ⟨w.heap.size, 1, none⟩ = some (.int .i64 i) ∧ w'.cell? ⟨w.heap.size, 2, none⟩ = some (.int .i64 n) ∧ w'.cell? ⟨w.heap.size, 3, none⟩ = some (.int .u8 c) ∧ w'.cell? ⟨w.heap.size, 4, none⟩ = some (.string text) ∧ w'.cell? ⟨w.heap.size, 5, none⟩ = some (.slice p picks.length pc)) (first | exact box_keep hx6 | exact box_keep hx7 | go_keep) ((first | (go_at_call 51; (with_reducible refine (HT.out _).mono ?_); rintro e w6 ⟨rfl, hb⟩; have hB6 := below_then (below_drew (below_alloc (Below.refl w.heap.size w) _)) (below_drew (below_alloc (Below.refl w.heap.size w) _)).size hb; have hx6 := (hb.block w.heap.size (by simp [World.drew])).trans HX.out) | (go_at_call 101; (with_reducible refine (HW.out _ (HN.out.quiet hB6)).mono ?_); rintro e w7 hd; obtain ⟨rfl, hd2⟩ := hd; have hx7 := (hd2.2.block w.heap.size (blk_lt hx6) (fun h => absurd h.2 (Nat.lt_irrefl _))).trans hx6)))
    have HD2 := Aside0.mk hd2
    clear hd2 hx6 hx7 hb
    go_wp2_with fail
    go_ret
    exact EDoes.after hB6 (fun k h => .inl h.1) ⟨rfl, HD2.out⟩
  · rw [if_neg (by decide), if_pos rfl]
    have HW := Aside0.mk (esync_calls _ HN1.out hbd.f0 hbd.f2 hbd.s0 (by omega))
    generalize d.sync = dw at HW ⊢
    clear h hp hbd hbs2 hbw2
    go_enter Try.func63, Try.ntmps63
    go_wp2_with fail
    refine (HW.out).mono ?_
    rintro e w1 hd
    obtain ⟨rfl, hd2⟩ := hd
    have HD2 := Aside0.mk hd2
    clear hd2
    go_wp2_with fail
    go_ret
    exact EDoes.after HB.out (fun k h => .inl h.1) ⟨rfl, HD2.out⟩
  · rw [if_neg (by decide), if_neg (by decide), if_pos rfl]
    have HW := Aside0.mk (efused_calls _ HN1.out n)
    generalize d.fused n = dw at HW ⊢
    clear h hp hbd hbs2 hbw2
    go_enter Try.func63, Try.ntmps63
    go_wp2_with fail
    refine (HW.out).mono ?_
    rintro e w1 hd
    obtain ⟨rfl, hd2⟩ := hd
    have HD2 := Aside0.mk hd2
    clear hd2
    go_wp2_with fail
    go_ret
    exact EDoes.after HB.out (fun k h => .inl h.1) ⟨rfl, HD2.out⟩
  · rw [if_neg (by decide), if_neg (by decide), if_neg (by decide), if_pos rfl]
    have HW := Aside0.mk (ecut_calls _ HN1.out)
    generalize d.cut = dw at HW ⊢
    clear h hp hbd hbs2 hbw2
    go_enter Try.func63, Try.ntmps63
    go_wp2_with fail
    refine (HW.out).mono ?_
    rintro e w1 hd
    obtain ⟨rfl, hd2⟩ := hd
    have HD2 := Aside0.mk hd2
    clear hd2
    go_wp2_with fail
    go_ret
    exact EDoes.after HB.out (fun k h => .inl h.1) ⟨rfl, HD2.out⟩
  · rw [if_neg (by decide), if_neg (by decide), if_neg (by decide), if_neg (by decide), if_pos rfl]
    have HW := Aside0.mk (estart_calls _ HN1.out p picks pc HP1.out hpl)
    generalize d.start picks = dw at HW ⊢
    clear h hp hbd hbs2 hbw2
    go_enter Try.func63, Try.ntmps63
    go_wp2_with fail
    refine (HW.out).mono ?_
    rintro e w1 hd
    obtain ⟨rfl, hd2⟩ := hd
    have HD2 := Aside0.mk hd2
    clear hd2
    go_wp2_with fail
    go_ret
    exact EDoes.after HB.out (fun k h => .inl h.1) ⟨rfl, HD2.out⟩
  · rw [if_neg k1, if_neg k2, if_neg k3, if_neg k4, if_neg k5]
    have HW := Aside0.mk (eread_calls _ HN1.out i)
    generalize d.read i = dw at HW ⊢
    clear hp hbd hbs2 hbw2 h
    go_enter Try.func63, Try.ntmps63
    go_wp2_with fail
    refine HW.out.mono ?_
    rintro e w1 ⟨rfl, rfl⟩
    go_wp2_with fail
    go_ret
    exact EDoes.after HB.out (fun k h => .inl h.1) ⟨rfl, ⟨y, HN1.out.move (fun _ _ _ => rfl) (fun _ h _ => .inl h)⟩, Turn.refl _ _⟩
end
end Go.Proofs.Ytjbkkmgkckopdaa.Dv
