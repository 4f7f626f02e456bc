/- The table of readers: Clear, Oldest; every contract over a table as a whole; the calls at nil. -/
import Derived.Test.YtjbkkmgkckopdaaRdPure
namespace Go.Proofs.Ytjbkkmgkckopdaa.Rd
open Go.RowKit Go.Proofs.YtjbkkmgkckopdaaW.PrintWords Go.Proofs.YtjbkkmgkckopdaaW.PrintLast Go.Proofs.YtjbkkmgkckopdaaW.PrintMore
set_option linter.unusedVariables false
set_option linter.unusedSimpArgs false
theorem Only.of_below {g : Nat} {w w' : World} (h : Below w.heap.size w w') : Only g w w' := ⟨h.os, h.tape, h.output, h.size, fun k hk _ => h.block k hk⟩
theorem Only.setRow {g : Nat} {w w' : World} (h : Only g w w') (cs : Array Value) : Only g w (w'.setRow g cs) :=
  ⟨h.os, h.tape, h.output, by simpa using h.size, fun k hk hne => (setRow_other w' g k cs hne).trans (h.block k hk hne)⟩
theorem ret_int {k : IntKind} {a b : Int} (h : a = b) : Ending.returned (.int k a) = .returned (.int k b) := by rw [h]
theorem own_slice {w : World} {B n : Nat} {v : Value} {xs : List Value} (h : w.ownsRow B 3 1 v n xs) : ∃ A c, v = .slice A n c := by
  rcases h.2 with ⟨rfl, rfl⟩ | ⟨g, cap, cur, rfl, _⟩
  · exact ⟨none, 0, rfl⟩
  · exact ⟨_, _, rfl⟩
/-- A whole row is stored. -/
theorem wpList_store_row {P : Program} {ops : Array Oper} {rest : List Oper} {o : Oper} {a : Act} {w : World} {Q : Exit → Act → World → Prop} (hgd : o.guard = none) (ty : TypeId) (x y : Operand) (ho : o.op = .store ty x y)
    (g : Nat) (cells : Array Value) (hx : a.eval x = .pointer (some ⟨g, 0, none⟩)) (hy : a.eval y = .agg cells)
    (t : TypeId) (old : Array Value) (hg : w.heap[g]? = some (.cells old t (0, 0))) (hi : (P.info? ty).map (·.size) = some cells.size)
    (hold : old.size = cells.size) (h1 : cells.all (·.oneCell') = true)
    (h : ∀ w', w' = w.setRow g cells → wpList P ops Q rest (a.put o.dst undef) w') : wpList P ops Q (o :: rest) a w :=
  wpList_plain hgd fun _ hK => wp_store_row ty x y ho g cells hx hy t old hg hi hold h1 (hK _ _ (h _ rfl))

def ClearPost (g : Nat) (t : T) (w : World) (e : Ending) (w' : World) : Prop := e = .returned (.int .i64 t.live.length) ∧ Tb w' g T.free ∧ Only g w w'
set_option maxHeartbeats 4000000 in
set_option maxRecDepth 1000000 in
theorem clear_calls (g : Nat) (t : T) (w : World) (ht : Tb w g t) : Calls Try.prog 39 #[.pointer (some ⟨g, 0, none⟩)] w (ClearPost g t w) := by
  have LV := Aside0.mk (fun w (h : Tb w g t) => live_calls g t.a.1 t.b.1 t.c.1 t.d.1 t.a.2 t.b.2 t.c.2 t.d.2 w h)
  have HT := Aside0.mk ht
  clear ht
  go_enter Try.func39, Try.ntmps39
  go_wp2_with fail
  refine (LV.out _ HT.out).mono ?_
  rintro e w1 ⟨v, ys, rfl, hp, _, ho, hb⟩
  obtain ⟨A, cp, rfl⟩ := own_slice ho
  have HT1 := Aside0.mk (blk_below HT.out hb)
  have HL := Aside0.mk (show ys.length = t.live.length from hp.length_eq)
  have HB := Aside0.mk hb
  clear hp ho hb
  generalize ys.length = m at HL
  go_wp2_with ((with_reducible refine gate_store (t := 128) (p := 12) rfl ?_); refine wpList_store_row rfl 128 (.tmp 12) (.tmp 10) rfl g #[.int .i64 0, .bool false, .int .i64 0, .bool false, .int .i64 0, .bool false, .int .i64 0, .bool false] rfl rfl 130 _ HT1.out (by kernel_rfl) rfl (by kernel_rfl) ?_; intro w3 hw3; have HW3 := Aside0.mk hw3; clear hw3)
  go_ret
  refine ⟨by rw [HL.out]; rfl, ?_, ?_⟩
  · rw [HW3.out]
    exact setRow_heap _ _ _ _ _ _ HT1.out
  · rw [HW3.out]
    exact (Only.of_below HB.out).setRow _
def OldestPost (t : T) (x : Int) (w : World) (e : Ending) (w' : World) : Prop := e = .returned (.int .i64 (t.oldest x)) ∧ Below w.heap.size w w'
set_option maxHeartbeats 4000000 in
set_option maxRecDepth 1000000 in
theorem oldest_calls (g : Nat) (t : T) (x : Int) (w : World) (ht : Tb w g t) : Calls Try.prog 35 #[.pointer (some ⟨g, 0, none⟩), .int .i64 x] w (OldestPost t x w) := by
  have LV := Aside0.mk (fun w (h : Tb w g t) => live_calls g t.a.1 t.b.1 t.c.1 t.d.1 t.a.2 t.b.2 t.c.2 t.d.2 w h)
  have HT := Aside0.mk ht
  clear ht
  go_enter Try.func35, Try.ntmps35
  go_wp2_with fail
  refine (LV.out _ HT.out).mono ?_
  rintro e w1 ⟨v, ys, rfl, hp, hs, ho, hb⟩
  have HB := Aside0.mk hb
  have HP := Aside0.mk (show ys.Perm t.live from hp)
  have HS := Aside0.mk hs
  clear hp hs hb
  cases ys with
  | nil =>
    have HN := Aside0.mk (oldest_of_nil (t := t) (List.length_eq_zero_iff.1 (by rw [← HP.out.length_eq]; rfl)) x)
    obtain ⟨A, cp, rfl⟩ := own_slice ho
    clear ho
    go_wp2_with fail
    go_ret
    exact ⟨by rw [HN.out]; rfl, HB.out⟩
  | cons y r =>
    have HN := Aside0.mk (oldest_of_sorted HP.out HS.out x (by simp))
    have hl : 0 < (y :: r).length := by simp
    generalize hn : (y :: r).length = n at ho hl
    obtain ⟨g2, cap, hv⟩ : ∃ g2 cap, v = .slice (some ⟨g2, 0, none⟩) n cap := by
      rcases ho.2 with ⟨_, h0⟩ | ⟨g2, cap, cur, hv, _⟩
      · omega
      · exact ⟨g2, cap, hv⟩
    subst hv
    have hc : w1.cell? ⟨g2, 0, none⟩ = some (.int .i64 y) := by
      have := ho.cells (g := g2) rfl 0 (.int .i64 y) rfl
      simpa [add_plain] using this
    clear ho hn
    have hl' : (0 : Int) < (n : Int) := by omega
    go_wp2_with fail
    all_goals
      go_ret
      have q : min x y = t.oldest x := HN.out
      exact ⟨ret_int (by omega), HB.out⟩
theorem enter_calls' (g : Nat) (t : T) (x : Int) (w : World) (ht : Tb w g t) : Calls Try.prog 33 #[.pointer (some ⟨g, 0, none⟩), .int .i64 x] w (EnterPost g (t.enter x) w) := enter_calls g _ _ _ _ _ _ _ _ x w ht
theorem leave_calls' (g : Nat) (t : T) (x : Int) (w : World) (ht : Tb w g t) : Calls Try.prog 34 #[.pointer (some ⟨g, 0, none⟩), .int .i64 x] w (LeavePost g (t.leave x) w) := leave_calls g _ _ _ _ _ _ _ _ x w ht
theorem reads_calls' (g : Nat) (t : T) (x : Int) (w : World) (ht : Tb w g t) : Calls Try.prog 42 #[.pointer (some ⟨g, 0, none⟩), .int .i64 x] w (ReadsPost (t.reads x) w) := reads_calls g _ _ _ _ _ _ _ _ x w ht
/-! ### at nil -/
theorem nil_enter (x : Int) (w : World) : Calls Try.prog 33 #[.pointer none, .int .i64 x] w fun e w' => e = .returned (.tuple #[.int .i64 0, .int .i64 2]) ∧ w = w' := by
  go_enter Try.func33, Try.ntmps33
  go_wp2
  go_ret2
  exact ⟨rfl, rfl⟩
theorem nil_leave (x : Int) (w : World) : Calls Try.prog 34 #[.pointer none, .int .i64 x] w fun e w' => e = .returned (.int .i64 2) ∧ w = w' := by
  go_enter Try.func34, Try.ntmps34
  go_wp2
  go_ret
  exact ⟨rfl, rfl⟩
theorem nil_reads (x : Int) (w : World) : Calls Try.prog 42 #[.pointer none, .int .i64 x] w fun e w' => e = .returned (.tuple #[.int .i64 0, .bool false]) ∧ w = w' := by
  go_enter Try.func42, Try.ntmps42
  go_wp2
  go_ret2
  exact ⟨rfl, rfl⟩
theorem nil_live (w : World) : Calls Try.prog 44 #[.pointer none] w fun e w' => e = .returned (.slice none 0 0) ∧ w = w' := by
  go_enter Try.func44, Try.ntmps44
  go_wp2
  go_ret
  exact ⟨rfl, rfl⟩
theorem nil_clear (w : World) : Calls Try.prog 39 #[.pointer none] w fun e w' => e = .returned (.int .i64 0) ∧ w = w' := by
  go_enter Try.func39, Try.ntmps39
  go_wp2
  go_ret
  exact ⟨rfl, rfl⟩
theorem nil_oldest (x : Int) (w : World) : Calls Try.prog 35 #[.pointer none, .int .i64 x] w fun e w' => e = .returned (.int .i64 x) ∧ w = w' := by
  go_enter Try.func35, Try.ntmps35
  go_wp2_with fail
  refine (nil_live _).mono ?_
  rintro e w1 ⟨rfl, rfl⟩
  go_wp2_with fail
  go_ret
  exact ⟨rfl, rfl⟩
end Go.Proofs.Ytjbkkmgkckopdaa.Rd
