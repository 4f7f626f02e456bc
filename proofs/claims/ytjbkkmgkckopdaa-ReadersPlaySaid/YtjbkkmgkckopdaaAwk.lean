/- The readers' example (awake), and the law at nil, walked. -/
import Derived.Test.YtjbkkmgkckopdaaRef
namespace Go.Proofs.Ytjbkkmgkckopdaa.Rd
open Go.RowKit Go.Proofs.YtjbkkmgkckopdaaW.PrintWords Go.Proofs.YtjbkkmgkckopdaaW.PrintLast Go.Proofs.YtjbkkmgkckopdaaW.PrintMore
set_option linter.unusedVariables false
set_option linter.unusedSimpArgs false
theorem below_only {B g : Nat} {w w1 w2 : World} (h : Below B w w1) (k : Only g w1 w2) (hg : B ≤ g) (hB : B ≤ w1.heap.size) : Below B w w2 :=
  ⟨k.os.trans h.os, k.tape.trans h.tape, k.output.trans h.output, Nat.le_trans h.size k.size, fun i hi => (k.block i (by omega) (by omega)).trans (h.block i hi)⟩
theorem below_le {w w1 : World} (h : Below w.heap.size w w1) : w.heap.size ≤ w1.heap.size := h.size
theorem tb_below {w w' : World} {g : Nat} {t : T} (h : Tb w g t) (hb : Below w.heap.size w w') : Tb w' g t := blk_below h hb
theorem tb_lt {w : World} {g : Nat} {t : T} (h : Tb w g t) : g < w.heap.size := blk_lt h
def YesPost (w : World) (e : Ending) (w' : World) : Prop := e = .returned (.bool true) ∧ Below w.heap.size w w'
set_option maxHeartbeats 4000000 in
set_option maxRecDepth 1000000 in
theorem awake_calls (w : World) : Calls Try.prog 31 #[] w (YesPost w) := by
  go_enter Try.func31, Try.ntmps31
  go_wp2_with fail
  refine (new_calls _).mono ?_
  rintro e w1 ⟨rfl, ht, hb⟩
  have HB := Aside0.mk hb
  have HT := Aside0.mk ht
  have HG := Aside0.mk (Nat.le_refl w.heap.size)
  clear hb ht
  generalize hg : w.heap.size = g at HT
  have HG := Aside0.mk (Nat.le_of_eq hg)
  clear hg
  go_wp2_with fail
  refine (enter_calls' g _ 5 _ HT.out).mono ?_
  rintro e w2 ⟨he, ht, ho⟩
  obtain rfl : e = .returned (.tuple #[.int .i64 0, .int .i64 0]) := he
  have HB2 := Aside0.mk (below_only HB.out ho HG.out HB.out.size)
  have HT2 := Aside0.mk (show Tb w2 g ⟨(5, true), (0, false), (0, false), (0, false)⟩ from ht)
  clear ht ho HT HB
  go_wp2_with fail
  refine (enter_calls' g _ 3 _ HT2.out).mono ?_
  rintro e w3 ⟨he, ht, ho⟩
  obtain rfl : e = .returned (.tuple #[.int .i64 1, .int .i64 0]) := he
  have HB3 := Aside0.mk (below_only HB2.out ho HG.out HB2.out.size)
  have HT3 := Aside0.mk (show Tb w3 g ⟨(5, true), (3, true), (0, false), (0, false)⟩ from ht)
  clear ht ho HT2 HB2
  go_wp2_with fail
  refine (oldest_calls g _ 9 _ HT3.out).mono ?_
  rintro e w4 ⟨he, hb⟩
  obtain rfl : e = .returned (.int .i64 3) := he
  have HB4 := Aside0.mk (below_step HB3.out hb)
  have HT4 := Aside0.mk (tb_below HT3.out hb)
  clear hb HT3 HB3
  go_wp2_with fail
  refine (leave_calls' g _ 1 _ HT4.out).mono ?_
  rintro e w5 ⟨he, ht, ho⟩
  obtain rfl : e = .returned (.int .i64 0) := he
  have HB5 := Aside0.mk (below_only HB4.out ho HG.out HB4.out.size)
  have HT5 := Aside0.mk (show Tb w5 g ⟨(5, true), (0, false), (0, false), (0, false)⟩ from ht)
  clear ht ho HT4 HB4
  go_wp2_with fail
  refine (oldest_calls g _ 9 _ HT5.out).mono ?_
  rintro e w6 ⟨he, hb⟩
  obtain rfl : e = .returned (.int .i64 5) := he
  have HB6 := Aside0.mk (below_step HB5.out hb)
  clear hb HT5 HB5
  go_wp2_with fail
  go_ret
  exact ⟨rfl, HB6.out⟩
set_option maxHeartbeats 4000000 in
set_option maxRecDepth 1000000 in
theorem nil_law (n : Int) (w : World) : Calls Try.prog 8 #[.int .i64 n] w (YesPost w) := by
  go_enter Try.func8, Try.ntmps8
  go_wp2_with fail
  refine (awake_calls _).mono ?_
  rintro e w1 ⟨rfl, hb⟩
  have HB := Aside0.mk hb
  clear hb
  go_wp2_with fail
  refine (nil_enter _ _).mono ?_
  rintro e w2 ⟨rfl, rfl⟩
  go_wp2_with fail
  refine (nil_reads _ _).mono ?_
  rintro e w2 ⟨rfl, rfl⟩
  go_wp2_with fail
  refine (nil_leave _ _).mono ?_
  rintro e w2 ⟨rfl, rfl⟩
  go_wp2_with fail
  refine (nil_oldest _ _).mono ?_
  rintro e w2 ⟨rfl, rfl⟩
  go_wp2_with fail
  refine (nil_live _).mono ?_
  rintro e w2 ⟨rfl, rfl⟩
  go_wp2_with fail
  refine (nil_clear _).mono ?_
  rintro e w2 ⟨rfl, rfl⟩
  go_wp2_with fail
  go_ret
  exact ⟨rfl, HB.out⟩
end Go.Proofs.Ytjbkkmgkckopdaa.Rd
