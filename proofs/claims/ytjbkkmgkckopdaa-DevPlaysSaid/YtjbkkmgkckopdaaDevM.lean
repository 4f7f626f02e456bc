/- The law of the nil device. -/
import Derived.Test.YtjbkkmgkckopdaaDevL
namespace Go.Proofs.Ytjbkkmgkckopdaa.Dv
open Go.Proofs.Ytjbkkmgkckopdaa.PN (bcell)
open Go.RowKit Go.Proofs.YtjbkkmgkckopdaaW.PrintWords Go.Proofs.YtjbkkmgkckopdaaW.PrintLast Go.Proofs.YtjbkkmgkckopdaaW.PrintMore Go.Proofs.Ytjbkkmgkckopdaa.Mem
set_option linter.unusedVariables false
set_option linter.unusedSimpArgs false
set_option maxHeartbeats 4000000 in
set_option maxRecDepth 1000000 in
theorem devNil_calls (a : A) (p : Option Addr) (pc : Nat) (w : World) : Calls Try.prog 12 #[.agg (a.cells p pc)] w (Tell (.bool true) w) := by
  have HA := Aside0.mk awake_calls
  have HD := Aside0.mk (does_nil a p pc)
  have HX := Aside0.mk (blk_new w (.cells (a.cells p pc) 67))
  have B0 := Aside0.mk (below_alloc (Below.refl w.heap.size w) (.cells (a.cells p pc) 67))
  obtain ⟨kind, i, n, c, text, picks⟩ := a
  unfold A.cells at *
  dsimp only at *
  have HR := Aside0.mk (fun w => read_nil w i)
  have HO := Aside0.mk on_nil
  have HZ := Aside0.mk size_nil
  have HL := Aside0.mk (fun w => lasts_nil w i)
  have HW := Aside0.mk (fun w => waits_nil w i)
  have HWr := Aside0.mk writes_nil
  have HSt := Aside0.mk steps_nil
  go_enter Try.func12, Try.ntmps12
  go_wp2_with fail
  refine (HA.out _).mono ?_
  rintro e w1 ⟨rfl, hb⟩
  have B1 := Aside0.mk (below_step B0.out hb)
  have X1 := Aside0.mk (blk_below HX.out hb)
  have c1 := (blk_cell X1.out 1).trans rfl
  clear hb B0 HX
  go_wp2_with fail
  refine (HR.out _).mono ?_
  rintro e w2 ⟨rfl, rfl⟩
  have c0 := (blk_cell X1.out 0).trans rfl
  have c2 := (blk_cell X1.out 2).trans rfl
  have c3 := (blk_cell X1.out 3).trans rfl
  have c4 := (blk_cell X1.out 4).trans rfl
  have c5 := (blk_cell X1.out 5).trans rfl
  go_wp2_with fail
  refine (HD.out _).mono ?_
  rintro e w3 ⟨rfl, hb⟩
  have B3 := Aside0.mk (below_step B1.out hb)
  have d1 : w3.cell? ⟨w.heap.size, 1, none⟩ = some (.int .i64 i) := (blk_cell (blk_below X1.out hb) 1).trans rfl
  clear hb c0 c1 c2 c3 c4 c5
  go_wp2_with fail
  refine (HO.out _).mono ?_
  rintro e w4 ⟨rfl, rfl⟩
  go_wp2_with fail
  refine (HZ.out _).mono ?_
  rintro e w4 ⟨rfl, rfl⟩
  go_wp2_with fail
  refine (HL.out _).mono ?_
  rintro e w4 ⟨rfl, rfl⟩
  go_wp2_with fail
  refine (HW.out _).mono ?_
  rintro e w4 ⟨rfl, rfl⟩
  go_wp2_with fail
  refine (HWr.out _).mono ?_
  rintro e w4 ⟨rfl, rfl⟩
  go_wp2_with fail
  refine (HSt.out _).mono ?_
  rintro e w4 ⟨rfl, rfl⟩
  go_wp2_with fail
  go_ret
  exact ⟨rfl, B3.out⟩
end Go.Proofs.Ytjbkkmgkckopdaa.Dv
