/- PagerNil: the walk; an act that came in, opened. -/
import Derived.Test.YtjbkkmgkckopdaaDoorFormats
import Derived.ProofKit
import Derived.OpenShut
import Derived.Deep.Slices
import Derived.Deep.Fields
namespace Go.Proofs.YtjbkkmgkckopdaaDoor.Pg
open Go.RowKit Go.Proofs.YtjbkkmgkckopdaaDoorW.PrintWords Go.Proofs.YtjbkkmgkckopdaaDoorW.PrintLast Go.Proofs.YtjbkkmgkckopdaaDoorW.PrintMore Go.Proofs.YtjbkkmgkckopdaaDoor.Num Go.Proofs.YtjbkkmgkckopdaaDoor.Mem Go.Proofs.YtjbkkmgkckopdaaDoor.Dv
set_option linter.unusedVariables false
set_option linter.unusedSimpArgs false
/-- An act: its numbers and texts. -/
structure NA where
  k : Int
  pk : Int
  pn : Int
  pt : Int
  pb : S
  m : M
  nx : Bool
  n : Int
  t : S
  len : Nat
def NA.cells (a : NA) (P : Option Addr) (c : Nat) : Array Value := #[.int .i64 a.k, .int .i64 a.pk, .int .i64 a.pn, .int .i64 a.pt, .string a.pb, .int .i64 a.m.txn, .int .i64 a.m.root, .int .i64 a.m.free, .int .i64 a.m.pages, .int .i64 a.m.limit, .bool a.nx, .int .i64 a.n, .string a.t, .slice P a.len c]
theorem read_nil (n : Int) (w : World) : Calls Tryd.prog 15 #[.pointer none, .int .i64 n] w (fun e w' => e = .returned (.tuple #[.agg #[.int .i64 0, .int .i64 0, .int .i64 0, .string ⟨#[]⟩], .int .i64 2]) ∧ Below w.heap.size w w') := by
  go_enter Tryd.func15, Tryd.ntmps15
  go_wp2_with fail
  refine bodyPost_ret (results_list (rs := [.cell 4 42, .tmp 5]) rfl (by simp) (.cell w.heap.size 42 _ (0, 0) _ rfl (blk_new w _) Tryd.underlying42 rfl (by kernel_rfl) (.tmp .nil))) rfl ?_
  exact ⟨rfl, below_alloc (Below.refl _ _) _⟩
theorem other_nil (w : World) : Calls Tryd.prog 16 #[.pointer none] w (fun e w' => e = .returned (.tuple #[.agg #[.int .i64 0, .int .i64 0, .int .i64 0, .int .i64 0, .int .i64 0], .bool false]) ∧ Below w.heap.size w w') := by
  go_enter Tryd.func16, Tryd.ntmps16
  go_wp2_with fail
  refine bodyPost_ret (results_list (rs := [.cell 2 32, .tmp 3]) rfl (by simp) (.cell w.heap.size 32 _ (0, 0) _ rfl (blk_new w _) Tryd.underlying32 rfl (by kernel_rfl) (.tmp .nil))) rfl ?_
  exact ⟨rfl, below_alloc (Below.refl _ _) _⟩
theorem meta_nil (w : World) : Calls Tryd.prog 11 #[.pointer none] w (fun e w' => e = .returned (.agg #[.int .i64 0, .int .i64 0, .int .i64 0, .int .i64 0, .int .i64 0]) ∧ Below w.heap.size w w') := by
  go_enter Tryd.func11, Tryd.ntmps11
  go_wp2_with fail
  refine bodyPost_ret (results_single (r := .cell 2 32) rfl (.cell w.heap.size 32 _ (0, 0) _ rfl (blk_new w _) Tryd.underlying32 rfl (by kernel_rfl) .nil)) rfl ?_
  exact ⟨rfl, below_alloc (Below.refl _ _) _⟩
theorem write_nil (a b c : Int) (s : S) (w : World) : Calls Tryd.prog 17 #[.pointer none, .agg #[.int .i64 a, .int .i64 b, .int .i64 c, .string s]] w (fun e w' => e = .returned (.int .i64 2) ∧ Below w.heap.size w w') := by
  go_enter Tryd.func17, Tryd.ntmps17
  go_wp2_with fail
  go_ret
  exact ⟨rfl, below_alloc (Below.refl _ _) _⟩
theorem seal_nil (a b c d e : Int) (w : World) : Calls Tryd.prog 19 #[.pointer none, .agg #[.int .i64 a, .int .i64 b, .int .i64 c, .int .i64 d, .int .i64 e]] w (fun e w' => e = .returned (.int .i64 2) ∧ Below w.heap.size w w') := by
  go_enter Tryd.func19, Tryd.ntmps19
  go_wp2_with fail
  go_ret
  exact ⟨rfl, below_alloc (Below.refl _ _) _⟩
theorem sync_nil (w : World) : Calls Tryd.prog 18 #[.pointer none] w (fun e w' => e = .returned (.int .i64 2) ∧ w = w') := by
  go_enter Tryd.func18, Tryd.ntmps18
  go_wp2_with fail
  go_ret
  exact ⟨rfl, rfl⟩
theorem done_nil (w : World) : Calls Tryd.prog 20 #[.pointer none] w (fun e w' => e = .returned (.int .i64 2) ∧ w = w') := by
  go_enter Tryd.func20, Tryd.ntmps20
  go_wp2_with fail
  go_ret
  exact ⟨rfl, rfl⟩
theorem log_nil (w : World) : Calls Tryd.prog 21 #[.pointer none] w (fun e w' => e = .returned (.slice none 0 0) ∧ w = w') := by
  go_enter Tryd.func21, Tryd.ntmps21
  go_wp2_with fail
  go_ret
  exact ⟨rfl, rfl⟩
set_option maxHeartbeats 4000000 in
set_option maxRecDepth 100000 in
theorem nil_calls (a : NA) (P : Option Addr) (c : Nat) (w : World) (hr : RowAt w) : Calls Tryd.prog 5 #[.agg (a.cells P c)] w (Tell (.bool true) w) := by
  obtain ⟨k, pk, pn, pt, pb, ⟨m1, m2, m3, m4, m5⟩, nx, n, t, len⟩ := a
  unfold NA.cells
  dsimp only
  generalize hbox : (Obj.cells #[.int .i64 k, .int .i64 pk, .int .i64 pn, .int .i64 pt, .string pb, .int .i64 m1, .int .i64 m2, .int .i64 m3, .int .i64 m4, .int .i64 m5, .bool nx, .int .i64 n, .string t, .slice P len c] 45) = bx
  have HBX := Aside0.mk hbox
  clear hbox
  have HA := Aside0.mk (awake_calls (w.alloc bx) (hr.below (below_alloc (Below.refl _ _) _) hr.pos))
  rw [← HBX.out] at HA
  have H1 := Aside0.mk (fun W => read_nil n W)
  have H2 := Aside0.mk (fun W => other_nil W)
  have H3 := Aside0.mk (fun W => write_nil pk pn pt pb W)
  have H4 := Aside0.mk (fun W => sync_nil W)
  have H5 := Aside0.mk (fun W => seal_nil m1 m2 m3 m4 m5 W)
  have H6 := Aside0.mk (fun W => done_nil W)
  have H7 := Aside0.mk (fun W => meta_nil W)
  have H8 := Aside0.mk (fun W => log_nil W)
  clear hr
  go_enter Tryd.func5, Tryd.ntmps5
  go_wp2_with fail
  refine HA.out.mono ?_
  rintro e w1 ⟨rfl, hb⟩
  rw [HBX.out] at hb
  have HX1 := Aside0.mk (blk_below (blk_new w bx) hb)
  have HB1 := Aside0.mk (below_step (below_alloc (Below.refl w.heap.size w) bx) hb)
  clear hb HA
  have x11 := (blk_cell (by have := HX1.out; rw [← HBX.out] at this; exact this) 11).trans rfl
  go_wp2_with fail
  refine (H1.out _).mono ?_
  rintro e w2 ⟨rfl, hb⟩
  have HX2 := Aside0.mk (blk_below HX1.out hb)
  have HB2 := Aside0.mk (below_step HB1.out hb)
  clear hb HX1 HB1 x11 H1
  go_wp2_with fail
  refine (H2.out _).mono ?_
  rintro e w3 ⟨rfl, hb⟩
  have HY3 := Aside0.mk (blk_below (blk_new w2 (.cells #[.int .i64 0, .int .i64 0, .int .i64 0, .string ⟨#[]⟩] 42)) hb)
  have HX3 := Aside0.mk (blk_below (blk_below HX2.out (below_alloc (Below.refl _ _) (.cells #[.int .i64 0, .int .i64 0, .int .i64 0, .string ⟨#[]⟩] 42))) hb)
  have HB3 := Aside0.mk (below_step (below_alloc HB2.out (.cells #[.int .i64 0, .int .i64 0, .int .i64 0, .string ⟨#[]⟩] 42)) hb)
  clear hb HX2 HB2 H2
  have hx := blk_alloc HX3.out (.cells #[.int .i64 0, .int .i64 0, .int .i64 0, .int .i64 0, .int .i64 0] 32)
  rw [← HBX.out] at hx
  have hy := blk_alloc HY3.out (.cells #[.int .i64 0, .int .i64 0, .int .i64 0, .int .i64 0, .int .i64 0] 32)
  have y0 := (blk_cell hy 0).trans rfl
  have y1 := (blk_cell hy 1).trans rfl
  have y2 := (blk_cell hy 2).trans rfl
  have y3 := (blk_cell hy 3).trans rfl
  have x1 := (blk_cell hx 1).trans rfl
  have x2 := (blk_cell hx 2).trans rfl
  have x3 := (blk_cell hx 3).trans rfl
  have x4 := (blk_cell hx 4).trans rfl
  clear hx hy
  go_wp2_with fail
  refine (H3.out _).mono ?_
  rintro e w4 ⟨rfl, hb⟩
  have HZ4 := Aside0.mk (blk_below (blk_new w3 (.cells #[.int .i64 0, .int .i64 0, .int .i64 0, .int .i64 0, .int .i64 0] 32)) hb)
  have HX4 := Aside0.mk (blk_below (blk_alloc HX3.out (.cells #[.int .i64 0, .int .i64 0, .int .i64 0, .int .i64 0, .int .i64 0] 32)) hb)
  have HB4 := Aside0.mk (below_step (below_alloc HB3.out (.cells #[.int .i64 0, .int .i64 0, .int .i64 0, .int .i64 0, .int .i64 0] 32)) hb)
  clear hb HX3 HB3 HY3 H3 y0 y1 y2 y3 x1 x2 x3 x4
  go_wp2_with fail
  refine (H4.out _).mono ?_
  rintro e w5 ⟨rfl, rfl⟩
  have hx := HX4.out
  rw [← HBX.out] at hx
  have x5 := (blk_cell hx 5).trans rfl
  have x6 := (blk_cell hx 6).trans rfl
  have x7 := (blk_cell hx 7).trans rfl
  have x8 := (blk_cell hx 8).trans rfl
  have x9 := (blk_cell hx 9).trans rfl
  clear hx H4
  go_wp2_with fail
  refine (H5.out _).mono ?_
  rintro e w5 ⟨rfl, hb⟩
  have HZ5 := Aside0.mk (blk_below HZ4.out hb)
  have HB5 := Aside0.mk (below_step HB4.out hb)
  clear hb HX4 HB4 HZ4 H5 x5 x6 x7 x8 x9 HBX
  go_wp2_with fail
  refine (H6.out _).mono ?_
  rintro e w6 ⟨rfl, rfl⟩
  go_wp2_with fail
  refine (H7.out _).mono ?_
  rintro e w7 ⟨rfl, hb⟩
  have hz := blk_below HZ5.out hb
  have HB7 := Aside0.mk (below_step HB5.out hb)
  have z0 := (blk_cell hz 0).trans rfl
  have z1 := (blk_cell hz 1).trans rfl
  have z2 := (blk_cell hz 2).trans rfl
  have z3 := (blk_cell hz 3).trans rfl
  have z4 := (blk_cell hz 4).trans rfl
  clear hz hb HB5 HZ5 H6 H7
  go_wp2_with fail
  refine (H8.out _).mono ?_
  rintro e w8 ⟨rfl, rfl⟩
  go_wp2_with fail
  go_ret
  exact ⟨rfl, HB7.out⟩
end Go.Proofs.YtjbkkmgkckopdaaDoor.Pg
