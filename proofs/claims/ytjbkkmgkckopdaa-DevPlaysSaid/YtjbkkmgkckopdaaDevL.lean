/- The device: awake. -/
import Derived.Test.YtjbkkmgkckopdaaDevK
namespace Go.Proofs.Ytjbkkmgkckopdaa.Dv
open Go.WideShapes (bytes_inj)
open Go.Proofs.Ytjbkkmgkckopdaa.PN (bcell)
open Go.RowKit Go.Proofs.YtjbkkmgkckopdaaW.PrintWords Go.Proofs.YtjbkkmgkckopdaaW.PrintLast Go.Proofs.YtjbkkmgkckopdaaW.PrintMore Go.Proofs.Ytjbkkmgkckopdaa.Mem
set_option linter.unusedVariables false
set_option linter.unusedSimpArgs false
/-- The device answers, and is another one. -/
def Goes (w0 : World) (g : Nat) (d : D) (v : Value) (e : Ending) (w' : World) : Prop := e = .returned v ∧ Dev w0 w' g d
section
variable {w0 w : World} {g : Nat} {d : D}
theorem Dev.write (h : Dev w0 w g d) (i : Int) (s : S) {k : Nat} (hbd : Bd d k) (hk : k < 1000000) : Calls Try.prog 59 #[.pointer (some ⟨g, 0, none⟩), .int .i64 i, .string s] w (Goes w0 g (d.write i s).1 (.int .i64 (d.write i s).2)) := by
  obtain ⟨y, hy⟩ := h.1
  have := hbd.s2
  have := hbd.w2
  exact (write_calls w hy i s hbd.f0 hbd.f2 hbd.s0 (by omega) hbd.w0 (by omega) (fun n => by have := hbd.few n; omega)).mono fun e w' hd => h.does (fun k h => h) hd
theorem Dev.cut (h : Dev w0 w g d) : Calls Try.prog 53 #[.pointer (some ⟨g, 0, none⟩)] w (Goes w0 g d.cut.1 (.int .i64 d.cut.2)) := by
  obtain ⟨y, hy⟩ := h.1
  exact (cut_calls w hy).mono fun e w' hd => h.does (fun k h => h) hd
theorem Dev.read (h : Dev w0 w g d) (i : Int) : Calls Try.prog 64 #[.pointer (some ⟨g, 0, none⟩), .int .i64 i] w (Say (.tuple #[.string (d.read i).1, .int .i64 (d.read i).2]) w) := by
  obtain ⟨y, hy⟩ := h.1
  exact read_calls w hy i
/-- Start, the picks lying in a block made since. -/
theorem Dev.start_two (h : Dev w0 w g d) (a b : Int) : Calls Try.prog 54 #[.pointer (some ⟨g, 0, none⟩), .slice (some ⟨w.heap.size, 0, none⟩) 2 2] (w.alloc (.cells #[.int .i64 a, .int .i64 b] 3)) (Goes w0 g (d.start [a, b]).1 (.int .i64 (d.start [a, b]).2)) := by
  obtain ⟨y, hy⟩ := h.1
  have hb := blk_new w (.cells #[.int .i64 a, .int .i64 b] 3)
  have hq := h.later (below_alloc (Below.refl _ w) (.cells #[.int .i64 a, .int .i64 b] 3))
  refine (start_calls _ (hy.narrow.quiet (below_alloc (Below.refl _ w) _)) (some ⟨w.heap.size, 0, none⟩) [a, b] 2 (fun j hj => ⟨_, rfl, ?_, fun h => by have h2 := h.2; rw [add_plain] at h2; exact Nat.lt_irrefl _ h2⟩) (by simp)).mono fun e w' hd => hq.does (fun k h => h.1) hd
  have h2 : j = 0 ∨ j = 1 := by simp at hj; omega
  rcases h2 with rfl | rfl
  · exact (blk_cell hb 0).trans rfl
  · exact (blk_cell hb 1).trans rfl
end
theorem sec_size (c : Int) : (sec c).size = 128 := by
  unfold sec strOfNums
  simp [ByteArray.size]
section
variable {a b c z : S}
def v0 (z : S) : D := ⟨[z, z], [], false, 0, 0, 0⟩
def v1 (z a : S) : D := ⟨[z, z], [(0, [a])], false, 0, 1, 1⟩
def v2 (z a b : S) : D := ⟨[z, z], [(0, [a, b])], false, 0, 2, 2⟩
def v3 (z a b c : S) : D := ⟨[z, z], [(0, [a, b]), (1, [c])], false, 0, 3, 3⟩
def v4 (z a b c : S) : D := ⟨[z, z], [(0, [a, b]), (1, [c])], true, 0, 3, 3⟩
def v5 (z a : S) : D := ⟨[a, z], [], false, 0, 3, 3⟩
theorem e0 : Dv.fresh 2 = v0 zero128 := rfl
theorem e1 (ha : a.size = 128) : (v0 z).write 0 a = (v1 z a, 0) := by simp [D.write, D.step, v0, v1, more, ha]; rfl
theorem e2 (hb : b.size = 128) : (v1 z a).write 0 b = (v2 z a b, 0) := by simp [D.write, D.step, v2, v1, more, hb]; rfl
theorem e3 (hc : c.size = 128) : (v2 z a b).write 1 c = (v3 z a b c, 0) := by simp [D.write, D.step, v2, v3, more, hc]; rfl
theorem e4 : (v3 z a b c).cut = (v4 z a b c, 0) := by simp [D.cut, v3, v4]
theorem e5 : (v4 z a b c).start [1, 0] = (v5 z a, 0) := by simp [D.start, Dv.start, v4, v5, look, pick]; rfl
theorem e6 : (v5 z a).read 0 = (a, 0) := by simp [D.read, v5, look]
theorem e7 : (v5 z a).read 1 = (z, 0) := by simp [D.read, v5, look]
theorem b0 : Bd (v0 z) 3 := ⟨by simp [v0], by simp [v0], by simp [v0], by simp [v0], by simp [v0], by simp [v0], fun n => by simp [v0, look]⟩
theorem b1 : Bd (v1 z a) 3 := ⟨by simp [v1], by simp [v1], by simp [v1], by simp [v1], by simp [v1], by simp [v1], fun n => by simp only [v1, look]; split <;> simp⟩
theorem b2 : Bd (v2 z a b) 3 := ⟨by simp [v2], by simp [v2], by simp [v2], by simp [v2], by simp [v2], by simp [v2], fun n => by simp only [v2, look]; split <;> simp⟩
end
set_option maxHeartbeats 4000000 in
set_option maxRecDepth 1000000 in
theorem awake_calls (w : World) : Calls Try.prog 46 #[] w (Tell (.bool true) w) := by
  have HN := Aside0.mk (show Calls Try.prog 47 #[.int .i64 2] w (NewPost 2 w) from new_calls 2 (by omega) (by omega) w)
  have HS := Aside0.mk sector_calls
  go_enter Try.func46, Try.ntmps46
  go_wp2_with fail
  refine HN.out.mono ?_
  rintro e w1 ⟨g, y, rfl, hy, hb⟩
  have HD1 := Aside0.mk (show Dev w w1 g (v0 zero128) from ⟨⟨y, hy⟩, hb⟩)
  clear hy hb HN
  go_wp2_with fail
  refine (HS.out 1 _).mono ?_
  rintro e w2 ⟨rfl, hb2⟩
  have HD2 := Aside0.mk (HD1.out.later hb2)
  have HW2 := Aside0.mk (HD2.out.write 0 (sec 1) b0 (by omega))
  rw [e1 (sec_size 1)] at HW2
  clear hb2 HD1
  go_wp2_with fail
  refine HW2.out.mono ?_
  rintro e w3 ⟨rfl, hd⟩
  have HD3 := Aside0.mk hd
  clear hd HW2 HD2
  go_wp2_with fail
  refine (HS.out 2 _).mono ?_
  rintro e w4 ⟨rfl, hb4⟩
  have HD4 := Aside0.mk (HD3.out.later hb4)
  have HW4 := Aside0.mk (HD4.out.write 0 (sec 2) b1 (by omega))
  rw [e2 (sec_size 2)] at HW4
  clear hb4 HD3
  go_wp2_with fail
  refine HW4.out.mono ?_
  rintro e w5 ⟨rfl, hd⟩
  have HD5 := Aside0.mk hd
  clear hd HW4 HD4
  go_wp2_with fail
  refine (HS.out 3 _).mono ?_
  rintro e w6 ⟨rfl, hb6⟩
  have HD6 := Aside0.mk (HD5.out.later hb6)
  have HW6 := Aside0.mk (HD6.out.write 1 (sec 3) b2 (by omega))
  rw [e3 (sec_size 3)] at HW6
  clear hb6 HD5
  go_wp2_with fail
  refine HW6.out.mono ?_
  rintro e w7 ⟨rfl, hd⟩
  have HD7 := Aside0.mk hd
  clear hd HW6 HD6
  go_wp2_with fail
  have HC := Aside0.mk HD7.out.cut
  rw [e4] at HC
  refine HC.out.mono ?_
  rintro e w8 ⟨rfl, hd⟩
  have HD8 := Aside0.mk hd
  have HT := Aside0.mk (hd.start_two 1 0)
  rw [e5] at HT
  clear hd HC HD7
  go_wp2_with fail
  refine HT.out.mono ?_
  rintro e w9 ⟨rfl, hd⟩
  have HR := Aside0.mk (hd.read 0)
  have HR2 := Aside0.mk (hd.read 1)
  rw [e6] at HR
  rw [e7] at HR2
  have HB := Aside0.mk hd.2
  clear hd HT HD8
  go_wp2_with fail
  refine HR.out.mono ?_
  rintro e w10 ⟨rfl, rfl⟩
  go_wp2_with fail
  refine HR2.out.mono ?_
  rintro e w11 ⟨rfl, rfl⟩
  go_wp2_with fail
  refine (HS.out 1 _).mono ?_
  rintro e w12 ⟨rfl, hb1⟩
  go_wp2_with fail
  refine (HS.out 0 _).mono ?_
  rintro e w13 ⟨rfl, hb2⟩
  go_wp2_with fail
  go_ret
  refine ⟨?_, below_step (below_step HB.out hb1) hb2⟩
  rw [sec_zero, beq_self_eq_true]
  rfl
end Go.Proofs.Ytjbkkmgkckopdaa.Dv
