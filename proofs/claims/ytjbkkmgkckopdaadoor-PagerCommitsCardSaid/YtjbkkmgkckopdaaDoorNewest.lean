/- The newest meta of two. -/
import Derived.Test.YtjbkkmgkckopdaaDoorUnpack
namespace Go.Proofs.YtjbkkmgkckopdaaDoor.Pg
open Go.RowKit Go.Proofs.YtjbkkmgkckopdaaDoorW.PrintWords Go.Proofs.YtjbkkmgkckopdaaDoorW.PrintLast Go.Proofs.YtjbkkmgkckopdaaDoorW.PrintMore Go.Proofs.YtjbkkmgkckopdaaDoor.Num Go.Proofs.YtjbkkmgkckopdaaDoor.Mem
set_option linter.unusedVariables false
set_option linter.unusedSimpArgs false
def newR (a b : ByteArray) : M × Int × Int := match newest crcSum a b with
  | some (m, k) => (m, (k : Int), 0)
  | none => (M.zero, 0, 4)
def New3 (r : M × Int × Int) (w : World) (e : Ending) (w' : World) : Prop := e = .returned (.tuple #[.agg r.1.cells, .int .i64 r.2.1, .int .i64 r.2.2]) ∧ Below w.heap.size w w'
set_option maxHeartbeats 4000000 in
set_option maxRecDepth 100000 in
theorem newest_nn (a b : ByteArray) (x1 x2 x3 x4 x5 y1 y2 y3 y4 y5 : Int) (w : World) (hr : RowAt w)
    (hA : ∀ W, RowAt W → Calls Tryd.prog 32 #[.string a] W (Unp (⟨x1, x2, x3, x4, x5⟩, 4) W)) (hB : ∀ W, RowAt W → Calls Tryd.prog 32 #[.string b] W (Unp (⟨y1, y2, y3, y4, y5⟩, 4) W)) :
    Calls Tryd.prog 14 #[.string a, .string b] w (New3 (M.zero, 0, 4) w) := by
  have HA := Aside0.mk hA
  have HB := Aside0.mk hB
  have HT := Aside0.mk hr
  clear hr hA hB
  go_enter Tryd.func14, Tryd.ntmps14
  go_wp2_with fail
  refine (HA.out _ (HT.out.below (below_alloc (Below.refl _ _) _) HT.out.pos)).mono ?_
  rintro e w1 ⟨rfl, hb⟩
  unfold M.cells
  have HB1 := Aside0.mk (below_step (below_alloc (Below.refl w.heap.size w) (.cells #[.int .i64 0, .int .i64 0, .int .i64 0, .int .i64 0, .int .i64 0] 32)) hb)
  have HX1 := Aside0.mk (blk_below (blk_new w _) hb)
  clear hb
  go_wp2_with fail
  refine (HB.out _ (HT.out.below (below_alloc HB1.out _) HT.out.pos)).mono ?_
  rintro e w2 ⟨rfl, hb⟩
  unfold M.cells
  have HB2 := Aside0.mk (below_step (below_alloc HB1.out (.cells #[.int .i64 x1, .int .i64 x2, .int .i64 x3, .int .i64 x4, .int .i64 x5] 32)) hb)
  have HX2 := Aside0.mk (blk_below (blk_below HX1.out (below_alloc (Below.refl _ _) (.cells #[.int .i64 x1, .int .i64 x2, .int .i64 x3, .int .i64 x4, .int .i64 x5] 32))) hb)
  have hy := blk_below (blk_new w1 (.cells #[.int .i64 x1, .int .i64 x2, .int .i64 x3, .int .i64 x4, .int .i64 x5] 32)) hb
  have hy2 := blk_alloc hy (.cells #[.int .i64 y1, .int .i64 y2, .int .i64 y3, .int .i64 y4, .int .i64 y5] 32)
  have hx2 := blk_alloc HX2.out (.cells #[.int .i64 y1, .int .i64 y2, .int .i64 y3, .int .i64 y4, .int .i64 y5] 32)
  have c0 := (blk_cell hy2 0).trans rfl
  have c1 := (blk_cell hy2 1).trans rfl
  have c2 := (blk_cell hy2 2).trans rfl
  have c3 := (blk_cell hy2 3).trans rfl
  have c4 := (blk_cell hy2 4).trans rfl
  have d0 := (blk_cell hx2 0).trans rfl
  have d1 := (blk_cell hx2 1).trans rfl
  have d2 := (blk_cell hx2 2).trans rfl
  have d3 := (blk_cell hx2 3).trans rfl
  have d4 := (blk_cell hx2 4).trans rfl
  have f0 := blk_frozen hx2
  clear hb hy hy2 hx2 HX1 HB1 HA HB
  go_wp2_with fail
  refine bodyPost_ret (results_list (rs := [.cell 4 32, .tmp 5, .tmp 6]) rfl (by simp) (.cell w.heap.size 32 _ (0, 0) _ rfl (put5_blk (blk_alloc HX2.out _) _ _ _ _ _) Tryd.underlying32 rfl (by kernel_rfl) (.tmp (.tmp .nil)))) rfl ?_
  exact ⟨rfl, put5_below (below_alloc HB2.out _) (Nat.le_refl _) _ _ _ _ _⟩
set_option maxHeartbeats 4000000 in
set_option maxRecDepth 100000 in
theorem newest_ny (a b : ByteArray) (x1 x2 x3 x4 x5 y1 y2 y3 y4 y5 : Int) (w : World) (hr : RowAt w)
    (hA : ∀ W, RowAt W → Calls Tryd.prog 32 #[.string a] W (Unp (⟨x1, x2, x3, x4, x5⟩, 4) W)) (hB : ∀ W, RowAt W → Calls Tryd.prog 32 #[.string b] W (Unp (⟨y1, y2, y3, y4, y5⟩, 0) W)) :
    Calls Tryd.prog 14 #[.string a, .string b] w (New3 (⟨y1, y2, y3, y4, y5⟩, 1, 0) w) := by
  have HA := Aside0.mk hA
  have HB := Aside0.mk hB
  have HT := Aside0.mk hr
  clear hr hA hB
  go_enter Tryd.func14, Tryd.ntmps14
  go_wp2_with fail
  refine (HA.out _ (HT.out.below (below_alloc (Below.refl _ _) _) HT.out.pos)).mono ?_
  rintro e w1 ⟨rfl, hb⟩
  unfold M.cells
  have HB1 := Aside0.mk (below_step (below_alloc (Below.refl w.heap.size w) (.cells #[.int .i64 0, .int .i64 0, .int .i64 0, .int .i64 0, .int .i64 0] 32)) hb)
  have HX1 := Aside0.mk (blk_below (blk_new w _) hb)
  clear hb
  go_wp2_with fail
  refine (HB.out _ (HT.out.below (below_alloc HB1.out _) HT.out.pos)).mono ?_
  rintro e w2 ⟨rfl, hb⟩
  unfold M.cells
  have HB2 := Aside0.mk (below_step (below_alloc HB1.out (.cells #[.int .i64 x1, .int .i64 x2, .int .i64 x3, .int .i64 x4, .int .i64 x5] 32)) hb)
  have HX2 := Aside0.mk (blk_below (blk_below HX1.out (below_alloc (Below.refl _ _) (.cells #[.int .i64 x1, .int .i64 x2, .int .i64 x3, .int .i64 x4, .int .i64 x5] 32))) hb)
  have hy := blk_below (blk_new w1 (.cells #[.int .i64 x1, .int .i64 x2, .int .i64 x3, .int .i64 x4, .int .i64 x5] 32)) hb
  have hy2 := blk_alloc hy (.cells #[.int .i64 y1, .int .i64 y2, .int .i64 y3, .int .i64 y4, .int .i64 y5] 32)
  have hx2 := blk_alloc HX2.out (.cells #[.int .i64 y1, .int .i64 y2, .int .i64 y3, .int .i64 y4, .int .i64 y5] 32)
  have c0 := (blk_cell hy2 0).trans rfl
  have c1 := (blk_cell hy2 1).trans rfl
  have c2 := (blk_cell hy2 2).trans rfl
  have c3 := (blk_cell hy2 3).trans rfl
  have c4 := (blk_cell hy2 4).trans rfl
  have d0 := (blk_cell hx2 0).trans rfl
  have d1 := (blk_cell hx2 1).trans rfl
  have d2 := (blk_cell hx2 2).trans rfl
  have d3 := (blk_cell hx2 3).trans rfl
  have d4 := (blk_cell hx2 4).trans rfl
  have f0 := blk_frozen hx2
  clear hb hy hy2 hx2 HX1 HB1 HA HB
  go_wp2_with fail
  refine bodyPost_ret (results_list (rs := [.cell 4 32, .tmp 5, .tmp 6]) rfl (by simp) (.cell w.heap.size 32 _ (0, 0) _ rfl (put5_blk (blk_alloc HX2.out _) _ _ _ _ _) Tryd.underlying32 rfl (by kernel_rfl) (.tmp (.tmp .nil)))) rfl ?_
  exact ⟨rfl, put5_below (below_alloc HB2.out _) (Nat.le_refl _) _ _ _ _ _⟩
set_option maxHeartbeats 4000000 in
set_option maxRecDepth 100000 in
theorem newest_yn (a b : ByteArray) (x1 x2 x3 x4 x5 y1 y2 y3 y4 y5 : Int) (w : World) (hr : RowAt w)
    (hA : ∀ W, RowAt W → Calls Tryd.prog 32 #[.string a] W (Unp (⟨x1, x2, x3, x4, x5⟩, 0) W)) (hB : ∀ W, RowAt W → Calls Tryd.prog 32 #[.string b] W (Unp (⟨y1, y2, y3, y4, y5⟩, 4) W)) :
    Calls Tryd.prog 14 #[.string a, .string b] w (New3 (⟨x1, x2, x3, x4, x5⟩, 0, 0) w) := by
  have HA := Aside0.mk hA
  have HB := Aside0.mk hB
  have HT := Aside0.mk hr
  clear hr hA hB
  go_enter Tryd.func14, Tryd.ntmps14
  go_wp2_with fail
  refine (HA.out _ (HT.out.below (below_alloc (Below.refl _ _) _) HT.out.pos)).mono ?_
  rintro e w1 ⟨rfl, hb⟩
  unfold M.cells
  have HB1 := Aside0.mk (below_step (below_alloc (Below.refl w.heap.size w) (.cells #[.int .i64 0, .int .i64 0, .int .i64 0, .int .i64 0, .int .i64 0] 32)) hb)
  have HX1 := Aside0.mk (blk_below (blk_new w _) hb)
  clear hb
  go_wp2_with fail
  refine (HB.out _ (HT.out.below (below_alloc HB1.out _) HT.out.pos)).mono ?_
  rintro e w2 ⟨rfl, hb⟩
  unfold M.cells
  have HB2 := Aside0.mk (below_step (below_alloc HB1.out (.cells #[.int .i64 x1, .int .i64 x2, .int .i64 x3, .int .i64 x4, .int .i64 x5] 32)) hb)
  have HX2 := Aside0.mk (blk_below (blk_below HX1.out (below_alloc (Below.refl _ _) (.cells #[.int .i64 x1, .int .i64 x2, .int .i64 x3, .int .i64 x4, .int .i64 x5] 32))) hb)
  have hy := blk_below (blk_new w1 (.cells #[.int .i64 x1, .int .i64 x2, .int .i64 x3, .int .i64 x4, .int .i64 x5] 32)) hb
  have hy2 := blk_alloc hy (.cells #[.int .i64 y1, .int .i64 y2, .int .i64 y3, .int .i64 y4, .int .i64 y5] 32)
  have hx2 := blk_alloc HX2.out (.cells #[.int .i64 y1, .int .i64 y2, .int .i64 y3, .int .i64 y4, .int .i64 y5] 32)
  have c0 := (blk_cell hy2 0).trans rfl
  have c1 := (blk_cell hy2 1).trans rfl
  have c2 := (blk_cell hy2 2).trans rfl
  have c3 := (blk_cell hy2 3).trans rfl
  have c4 := (blk_cell hy2 4).trans rfl
  have d0 := (blk_cell hx2 0).trans rfl
  have d1 := (blk_cell hx2 1).trans rfl
  have d2 := (blk_cell hx2 2).trans rfl
  have d3 := (blk_cell hx2 3).trans rfl
  have d4 := (blk_cell hx2 4).trans rfl
  have f0 := blk_frozen hx2
  clear hb hy hy2 hx2 HX1 HB1 HA HB
  go_wp2_with fail
  refine bodyPost_ret (results_list (rs := [.cell 4 32, .tmp 5, .tmp 6]) rfl (by simp) (.cell w.heap.size 32 _ (0, 0) _ rfl (put5_blk (blk_alloc HX2.out _) _ _ _ _ _) Tryd.underlying32 rfl (by kernel_rfl) (.tmp (.tmp .nil)))) rfl ?_
  exact ⟨rfl, put5_below (below_alloc HB2.out _) (Nat.le_refl _) _ _ _ _ _⟩
set_option maxHeartbeats 4000000 in
set_option maxRecDepth 100000 in
theorem newest_lt (a b : ByteArray) (x1 x2 x3 x4 x5 y1 y2 y3 y4 y5 : Int) (ht : x1 < y1) (w : World) (hr : RowAt w)
    (hA : ∀ W, RowAt W → Calls Tryd.prog 32 #[.string a] W (Unp (⟨x1, x2, x3, x4, x5⟩, 0) W)) (hB : ∀ W, RowAt W → Calls Tryd.prog 32 #[.string b] W (Unp (⟨y1, y2, y3, y4, y5⟩, 0) W)) :
    Calls Tryd.prog 14 #[.string a, .string b] w (New3 (⟨y1, y2, y3, y4, y5⟩, 1, 0) w) := by
  have HA := Aside0.mk hA
  have HB := Aside0.mk hB
  have HT := Aside0.mk hr
  clear hr hA hB
  go_enter Tryd.func14, Tryd.ntmps14
  go_wp2_with fail
  refine (HA.out _ (HT.out.below (below_alloc (Below.refl _ _) _) HT.out.pos)).mono ?_
  rintro e w1 ⟨rfl, hb⟩
  unfold M.cells
  have HB1 := Aside0.mk (below_step (below_alloc (Below.refl w.heap.size w) (.cells #[.int .i64 0, .int .i64 0, .int .i64 0, .int .i64 0, .int .i64 0] 32)) hb)
  have HX1 := Aside0.mk (blk_below (blk_new w _) hb)
  clear hb
  go_wp2_with fail
  refine (HB.out _ (HT.out.below (below_alloc HB1.out _) HT.out.pos)).mono ?_
  rintro e w2 ⟨rfl, hb⟩
  unfold M.cells
  have HB2 := Aside0.mk (below_step (below_alloc HB1.out (.cells #[.int .i64 x1, .int .i64 x2, .int .i64 x3, .int .i64 x4, .int .i64 x5] 32)) hb)
  have HX2 := Aside0.mk (blk_below (blk_below HX1.out (below_alloc (Below.refl _ _) (.cells #[.int .i64 x1, .int .i64 x2, .int .i64 x3, .int .i64 x4, .int .i64 x5] 32))) hb)
  have hy := blk_below (blk_new w1 (.cells #[.int .i64 x1, .int .i64 x2, .int .i64 x3, .int .i64 x4, .int .i64 x5] 32)) hb
  have hy2 := blk_alloc hy (.cells #[.int .i64 y1, .int .i64 y2, .int .i64 y3, .int .i64 y4, .int .i64 y5] 32)
  have hx2 := blk_alloc HX2.out (.cells #[.int .i64 y1, .int .i64 y2, .int .i64 y3, .int .i64 y4, .int .i64 y5] 32)
  have c0 := (blk_cell hy2 0).trans rfl
  have c1 := (blk_cell hy2 1).trans rfl
  have c2 := (blk_cell hy2 2).trans rfl
  have c3 := (blk_cell hy2 3).trans rfl
  have c4 := (blk_cell hy2 4).trans rfl
  have d0 := (blk_cell hx2 0).trans rfl
  have d1 := (blk_cell hx2 1).trans rfl
  have d2 := (blk_cell hx2 2).trans rfl
  have d3 := (blk_cell hx2 3).trans rfl
  have d4 := (blk_cell hx2 4).trans rfl
  have f0 := blk_frozen hx2
  clear hb hy hy2 hx2 HX1 HB1 HA HB
  go_wp2_with fail
  refine bodyPost_ret (results_list (rs := [.cell 4 32, .tmp 5, .tmp 6]) rfl (by simp) (.cell w.heap.size 32 _ (0, 0) _ rfl (put5_blk (blk_alloc HX2.out _) _ _ _ _ _) Tryd.underlying32 rfl (by kernel_rfl) (.tmp (.tmp .nil)))) rfl ?_
  exact ⟨rfl, put5_below (below_alloc HB2.out _) (Nat.le_refl _) _ _ _ _ _⟩
set_option maxHeartbeats 4000000 in
set_option maxRecDepth 100000 in
theorem newest_ge (a b : ByteArray) (x1 x2 x3 x4 x5 y1 y2 y3 y4 y5 : Int) (ht : ¬ x1 < y1) (w : World) (hr : RowAt w)
    (hA : ∀ W, RowAt W → Calls Tryd.prog 32 #[.string a] W (Unp (⟨x1, x2, x3, x4, x5⟩, 0) W)) (hB : ∀ W, RowAt W → Calls Tryd.prog 32 #[.string b] W (Unp (⟨y1, y2, y3, y4, y5⟩, 0) W)) :
    Calls Tryd.prog 14 #[.string a, .string b] w (New3 (⟨x1, x2, x3, x4, x5⟩, 0, 0) w) := by
  have HA := Aside0.mk hA
  have HB := Aside0.mk hB
  have HT := Aside0.mk hr
  clear hr hA hB
  go_enter Tryd.func14, Tryd.ntmps14
  go_wp2_with fail
  refine (HA.out _ (HT.out.below (below_alloc (Below.refl _ _) _) HT.out.pos)).mono ?_
  rintro e w1 ⟨rfl, hb⟩
  unfold M.cells
  have HB1 := Aside0.mk (below_step (below_alloc (Below.refl w.heap.size w) (.cells #[.int .i64 0, .int .i64 0, .int .i64 0, .int .i64 0, .int .i64 0] 32)) hb)
  have HX1 := Aside0.mk (blk_below (blk_new w _) hb)
  clear hb
  go_wp2_with fail
  refine (HB.out _ (HT.out.below (below_alloc HB1.out _) HT.out.pos)).mono ?_
  rintro e w2 ⟨rfl, hb⟩
  unfold M.cells
  have HB2 := Aside0.mk (below_step (below_alloc HB1.out (.cells #[.int .i64 x1, .int .i64 x2, .int .i64 x3, .int .i64 x4, .int .i64 x5] 32)) hb)
  have HX2 := Aside0.mk (blk_below (blk_below HX1.out (below_alloc (Below.refl _ _) (.cells #[.int .i64 x1, .int .i64 x2, .int .i64 x3, .int .i64 x4, .int .i64 x5] 32))) hb)
  have hy := blk_below (blk_new w1 (.cells #[.int .i64 x1, .int .i64 x2, .int .i64 x3, .int .i64 x4, .int .i64 x5] 32)) hb
  have hy2 := blk_alloc hy (.cells #[.int .i64 y1, .int .i64 y2, .int .i64 y3, .int .i64 y4, .int .i64 y5] 32)
  have hx2 := blk_alloc HX2.out (.cells #[.int .i64 y1, .int .i64 y2, .int .i64 y3, .int .i64 y4, .int .i64 y5] 32)
  have c0 := (blk_cell hy2 0).trans rfl
  have c1 := (blk_cell hy2 1).trans rfl
  have c2 := (blk_cell hy2 2).trans rfl
  have c3 := (blk_cell hy2 3).trans rfl
  have c4 := (blk_cell hy2 4).trans rfl
  have d0 := (blk_cell hx2 0).trans rfl
  have d1 := (blk_cell hx2 1).trans rfl
  have d2 := (blk_cell hx2 2).trans rfl
  have d3 := (blk_cell hx2 3).trans rfl
  have d4 := (blk_cell hx2 4).trans rfl
  have f0 := blk_frozen hx2
  clear hb hy hy2 hx2 HX1 HB1 HA HB
  go_wp2_with fail
  refine bodyPost_ret (results_list (rs := [.cell 4 32, .tmp 5, .tmp 6]) rfl (by simp) (.cell w.heap.size 32 _ (0, 0) _ rfl (put5_blk (blk_alloc HX2.out _) _ _ _ _ _) Tryd.underlying32 rfl (by kernel_rfl) (.tmp (.tmp .nil)))) rfl ?_
  exact ⟨rfl, put5_below (below_alloc HB2.out _) (Nat.le_refl _) _ _ _ _ _⟩
theorem newest_calls (a b : ByteArray) (w : World) (hr : RowAt w) : Calls Tryd.prog 14 #[.string a, .string b] w (New3 (newR a b) w) := by
  have HA := fun W hr => unpack_calls a W hr
  have HB := fun W hr => unpack_calls b W hr
  unfold newR newest
  unfold unp at HA HB
  cases ha : unpack crcSum a with
  | none =>
    rw [ha] at HA
    cases hb : unpack crcSum b with
    | none =>
      rw [hb] at HB
      exact newest_nn a b 0 0 0 0 0 0 0 0 0 0 w hr HA HB
    | some y =>
      rw [hb] at HB
      exact newest_ny a b 0 0 0 0 0 y.txn y.root y.free y.pages y.limit w hr HA HB
  | some x =>
    rw [ha] at HA
    cases hb : unpack crcSum b with
    | none =>
      rw [hb] at HB
      exact newest_yn a b x.txn x.root x.free x.pages x.limit 0 0 0 0 0 w hr HA HB
    | some y =>
      rw [hb] at HB
      dsimp only
      by_cases ht : x.txn < y.txn
      · rw [if_pos ht]
        exact newest_lt a b x.txn x.root x.free x.pages x.limit y.txn y.root y.free y.pages y.limit ht w hr HA HB
      · rw [if_neg ht]
        exact newest_ge a b x.txn x.root x.free x.pages x.limit y.txn y.root y.free y.pages y.limit ht w hr HA HB
end Go.Proofs.YtjbkkmgkckopdaaDoor.Pg
