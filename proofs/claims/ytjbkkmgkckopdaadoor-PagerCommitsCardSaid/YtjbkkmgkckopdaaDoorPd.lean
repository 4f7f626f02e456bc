/- The device in new memory; a file is laid on it. -/
import Derived.Test.YtjbkkmgkckopdaaDoorOpen
namespace Go.Proofs.YtjbkkmgkckopdaaDoor.Dv
open Go.RowKit Go.Proofs.YtjbkkmgkckopdaaDoorW.PrintWords Go.Proofs.YtjbkkmgkckopdaaDoorW.PrintLast Go.Proofs.YtjbkkmgkckopdaaDoorW.PrintMore Go.Proofs.YtjbkkmgkckopdaaDoor.Mem
set_option linter.unusedVariables false
set_option linter.unusedSimpArgs false
/-- The numbers are small. -/
structure Bd (d : D) (k : Nat) : Prop where
  f0 : 0 ≤ d.fuse
  f2 : d.fuse ≤ 9223372036854775807
  s0 : 0 ≤ d.steps
  s2 : d.steps ≤ k
  w0 : 0 ≤ d.writes
  w2 : d.writes ≤ k
  few : ∀ n, (look d.waits n).length ≤ k
theorem Bd.more {d : D} {k : Nat} (h : Bd d k) : Bd d (k + 1) := ⟨h.f0, h.f2, h.s0, by have := h.s2; omega, h.w0, by have := h.w2; omega, fun n => Nat.le_succ_of_le (h.few n)⟩
theorem Bd.fresh (n : Nat) : Bd (Dv.fresh n) 0 := ⟨by simp [Dv.fresh], by simp [Dv.fresh], by simp [Dv.fresh], by simp [Dv.fresh], by simp [Dv.fresh], by simp [Dv.fresh], fun n => by simp [Dv.fresh, look]⟩
theorem Bd.step {d : D} {k : Nat} (h : Bd d k) : Bd d.step.1 (k + 1) := by
  have h1 := h.more
  have := h.s2
  have := h.f2
  have := h.f0
  have := h.s0
  unfold D.step
  split
  · exact h1
  split
  · exact ⟨by simp, by simp, by simp only; omega, by simp only; omega, h1.w0, h1.w2, h1.few⟩
  · exact ⟨by simp only; omega, by simp only; omega, by simp only; omega, by simp only; omega, h1.w0, h1.w2, h1.few⟩
theorem Bd.write {d : D} {k : Nat} (h : Bd d k) (i : Int) (s : S) : Bd (d.write i s).1 (k + 1) := by
  have h1 := h.more
  obtain ⟨k1, k2, k3⟩ := step_keeps d
  unfold D.write
  split
  · exact h1
  split
  · exact h.step
  · have hs := h.step
    refine ⟨hs.f0, hs.f2, hs.s0, hs.s2, ?_, ?_, fun n => ?_⟩
    · have := hs.w0; simp only; omega
    · have := h.w2; simp only [k3]; omega
    · simp only [look_more, k2]
      have := h.few n
      split
      · rw [List.length_append]; simp; omega
      · omega
theorem Bd.sync {d : D} {k : Nat} (h : Bd d k) : Bd d.sync.1 (k + 1) := by
  unfold D.sync
  split
  · exact h.step
  · have hs := h.step
    exact ⟨hs.f0, hs.f2, hs.s0, hs.s2, hs.w0, hs.w2, fun n => by simp [look]⟩
/-- The device lies in what is new since w0. -/
def Fr (w0 : World) : Nat → Prop := fun k => w0.heap.size ≤ k
def Dev (w0 w : World) (g : Nat) (d : D) : Prop := (∃ y, DAt w (Fr w0) g d y) ∧ Below w0.heap.size w0 w
theorem Dev.does {w0 w w' : World} {ok : Nat → Prop} {g : Nat} {d d' : D} {v : Value} {e : Ending} (h : Dev w0 w g d) (hk : ∀ k, ok k → w0.heap.size ≤ k) (hd : Does ok g d' v w e w') : e = .returned v ∧ Dev w0 w' g d' := by
  obtain ⟨h1, ⟨y, h2⟩, h3⟩ := hd
  have hs := h.2.size
  exact ⟨h1, ⟨y, h2.move (fun _ _ _ => rfl) (fun k hk' _ => by rcases hk' with h | h; exact hk k h; exact Nat.le_trans hs h)⟩, h.2.trans (h3.below (fun k _ h => hk k h) hs)⟩
theorem Dev.later {w0 w w' : World} {g : Nat} {d : D} (h : Dev w0 w g d) (hb : Below w.heap.size w w') : Dev w0 w' g d := by
  obtain ⟨⟨y, h1⟩, h2⟩ := h
  exact ⟨⟨y, h1.quiet hb⟩, h2.trans (hb.mono h2.size)⟩
/-- The device answers, and is another one. -/
def Goes (w0 : World) (g : Nat) (d : D) (v : Value) (e : Ending) (w' : World) : Prop := e = .returned v ∧ Dev w0 w' g d
section
variable {w0 w : World} {g : Nat} {d : D}
theorem Dev.write (h : Dev w0 w g d) (i : Int) (s : S) {k : Nat} (hbd : Bd d k) (hk : k < 1000000) : Calls Tryd.prog 12 #[.pointer (some ⟨g, 0, none⟩), .int .i64 i, .string s] w (Goes w0 g (d.write i s).1 (.int .i64 (d.write i s).2)) := by
  obtain ⟨y, hy⟩ := h.1
  have := hbd.s2
  have := hbd.w2
  exact (write_calls w hy i s hbd.f0 hbd.f2 hbd.s0 (by omega) hbd.w0 (by omega) (fun n => by have := hbd.few n; omega)).mono fun e w' hd => h.does (fun k h => h) hd
theorem Dev.sync (h : Dev w0 w g d) {k : Nat} (hbd : Bd d k) (hk : k < 1000000) : Calls Tryd.prog 31 #[.pointer (some ⟨g, 0, none⟩)] w (Goes w0 g d.sync.1 (.int .i64 d.sync.2)) := by
  obtain ⟨y, hy⟩ := h.1
  have := hbd.s2
  exact (sync_calls w hy hbd.f0 hbd.f2 hbd.s0 (by omega)).mono fun e w' hd => h.does (fun k h => h) hd
theorem Dev.read (h : Dev w0 w g d) (i : Int) : Calls Tryd.prog 13 #[.pointer (some ⟨g, 0, none⟩), .int .i64 i] w (Say (.tuple #[.string (d.read i).1, .int .i64 (d.read i).2]) w) := by
  obtain ⟨y, hy⟩ := h.1
  exact read_calls w hy i
theorem Dev.size (h : Dev w0 w g d) : Calls Tryd.prog 29 #[.pointer (some ⟨g, 0, none⟩)] w (Say (.int .i64 d.lasts.length) w) := by
  obtain ⟨y, hy⟩ := h.1
  exact size_calls w hy
theorem new_dev (n : Nat) (h1 : 1 ≤ n) (hn : n ≤ 2048) {w0 w : World} (hb : Below w0.heap.size w0 w) : Calls Tryd.prog 8 #[.int .i64 (n : Int)] w (fun e w' => ∃ g, e = .returned (.tuple #[.pointer (some ⟨g, 0, none⟩), .int .i64 0]) ∧ Dev w0 w' g (Dv.fresh n)) := by
  refine (new_calls n h1 hn w).mono ?_
  rintro e w' ⟨g, y, rfl, hy, hb2⟩
  have hs := hb.size
  exact ⟨g, rfl, ⟨y, hy.move (fun _ _ _ => rfl) (fun k h _ => Nat.le_trans hs h)⟩, hb.trans (hb2.mono hs)⟩
end
end Go.Proofs.YtjbkkmgkckopdaaDoor.Dv
namespace Go.Proofs.YtjbkkmgkckopdaaDoor.Pg
open Go.RowKit Go.Proofs.YtjbkkmgkckopdaaDoorW.PrintWords Go.Proofs.YtjbkkmgkckopdaaDoorW.PrintLast Go.Proofs.YtjbkkmgkckopdaaDoorW.PrintMore Go.Proofs.YtjbkkmgkckopdaaDoor.Num Go.Proofs.YtjbkkmgkckopdaaDoor.Mem Go.Proofs.YtjbkkmgkckopdaaDoor.Dv
set_option linter.unusedVariables false
set_option linter.unusedSimpArgs false
theorem formats3 {crc : S → Nat} {d : D} (hc : Calm d) (limit : Int) (h4 : 4 ≤ limit) (h5 : limit ≤ 512) (hl : 4 * limit ≤ (d.lasts.length : Int)) :
    ∃ d1 d2 d3, d.write 0 (ba (M.bytes crc ⟨0, 0, 0, 1, limit⟩)) = (d1, 0) ∧ d1.write 1 (ba (M.bytes crc ⟨1, 0, 0, 1, limit⟩)) = (d2, 0) ∧ d2.sync = (d3, 0) ∧ File crc d3 ⟨1, 0, 0, 1, limit⟩ ∧ d3.lasts.length = d.lasts.length ∧
      opened crc d3 = (some ⟨⟨1, 0, 0, 1, limit⟩, ⟨0, 0, 0, 1, limit⟩, true, none⟩, 0) := by
  obtain ⟨d1, w0, a1, a2, a3, a4⟩ := write_on hc.off (by rw [hc.fuse]; omega) 0 (ba (M.bytes crc ⟨0, 0, 0, 1, limit⟩)) (by omega) (bytes_size _ _)
  obtain ⟨d2, w1, b1, b2, b3, b4⟩ := write_on a3 (by rw [a4, hc.fuse]; omega) 1 (ba (M.bytes crc ⟨1, 0, 0, 1, limit⟩)) (by rw [a1]; omega) (bytes_size _ _)
  obtain ⟨d3, w2, c1, c2, c3, c4⟩ := sync_on b3 (by rw [b4, a4, hc.fuse]; omega)
  rw [Int.natCast_zero] at w0
  rw [Int.natCast_one] at w1
  rw [b2, a2, hc.waits, b1, a1] at c1
  have hlen : d3.lasts.length = d.lasts.length := by rw [c1, settle_length]
  have hcalm : Calm d3 := ⟨c3, by rw [c4, b4, a4, hc.fuse]; omega, c2⟩
  have l1 : d3.lasts[1]? = some (ba (M.bytes crc ⟨1, 0, 0, 1, limit⟩)) := by
    rw [c1, settle_get, List.getElem?_eq_getElem (by omega)]
    rfl
  have l0 : d3.lasts[0]? = some (ba (M.bytes crc ⟨0, 0, 0, 1, limit⟩)) := by
    rw [c1, settle_get, List.getElem?_eq_getElem (by omega)]
    rfl
  have u0 := unpack_bytes crc ⟨0, 0, 0, 1, limit⟩ (right_first _ _ (by omega) (by omega) h4 h5)
  have u1 := unpack_bytes crc ⟨1, 0, 0, 1, limit⟩ (right_first _ _ (by omega) (by omega) h4 h5)
  refine ⟨d1, d2, d3, w0, w1, w2, ⟨hcalm, by omega, right_first _ _ (by omega) (by omega) h4 h5, by dsimp only; omega, l1, ⟨_, ⟨0, 0, 0, 1, limit⟩, l0, u0, by dsimp only; omega⟩⟩, hlen, ?_⟩
  have r0 := read_calm hcalm 0 _ l0
  have r1 := read_calm hcalm 1 _ l1
  rw [Int.natCast_zero] at r0
  rw [Int.natCast_one] at r1
  unfold opened
  rw [r0, r1, if_neg (by simp), if_neg (by simp), newest_two u0 u1, if_pos (by dsimp only; omega)]
  dsimp only
  rw [if_neg (by rw [hlen]; omega), if_neg (by omega), u0]
  rfl
section
variable {w0 w : World} {g : Nat} {d : D}
theorem pack_right (m : M) (hm : m.right) (W : World) (hr : RowAt W) : Calls Tryd.prog 30 #[.agg m.cells] W fun e w' => e = .returned (.tuple #[.string (ba (m.bytes crcSum)), .int .i64 0]) ∧ Below W.heap.size W w' := by
  have := pack_calls m W hr
  unfold pack at this
  rw [if_pos hm] at this
  exact this
set_option maxHeartbeats 2000000 in
set_option maxRecDepth 100000 in
theorem format_go (h : Dev w0 w g d) (hr : RowAt w0) {k : Nat} (hbd : Bd d k) (hk : k + 3 < 1000000) (limit : Int) (h4 : 4 ≤ limit) (h5 : limit ≤ 512) (hl : 4 * limit ≤ (d.lasts.length : Int)) (d1 d2 d3 : D)
    (e1 : d.write 0 (ba (M.bytes crcSum ⟨0, 0, 0, 1, limit⟩)) = (d1, 0)) (e2 : d1.write 1 (ba (M.bytes crcSum ⟨1, 0, 0, 1, limit⟩)) = (d2, 0)) (e3 : d2.sync = (d3, 0)) :
    Calls Tryd.prog 9 #[.pointer (some ⟨g, 0, none⟩), .int .i64 limit] w (Goes w0 g d3 (.int .i64 0)) := by
  have hb1 := hbd.write 0 (ba (M.bytes crcSum ⟨0, 0, 0, 1, limit⟩))
  rw [e1] at hb1
  have hb2 := hb1.write 1 (ba (M.bytes crcSum ⟨1, 0, 0, 1, limit⟩))
  rw [e2] at hb2
  have P0 := Aside0.mk (fun W hr => pack_right ⟨0, 0, 0, 1, limit⟩ (right_first _ _ (by omega) (by omega) h4 h5) W hr)
  have P1 := Aside0.mk (fun W hr => pack_right ⟨1, 0, 0, 1, limit⟩ (right_first _ _ (by omega) (by omega) h4 h5) W hr)
  have W0 := Aside0.mk (fun W (h : Dev w0 W g d) => h.write 0 (ba (M.bytes crcSum ⟨0, 0, 0, 1, limit⟩)) hbd (by omega))
  rw [e1] at W0
  have W1 := Aside0.mk (fun W (h : Dev w0 W g d1) => h.write 1 (ba (M.bytes crcSum ⟨1, 0, 0, 1, limit⟩)) hb1 (by omega))
  rw [e2] at W1
  have W2 := Aside0.mk (fun W (h : Dev w0 W g d2) => h.sync hb2 (by omega))
  rw [e3] at W2
  have HS := Aside0.mk h.size
  have H := Aside0.mk h
  have HT := Aside0.mk hr
  unfold M.cells at P0 P1
  dsimp only at P0 P1
  have a1 : ¬ limit < 4 := by omega
  have a2 : ¬ (512 : Int) < limit := by omega
  have a3 : ¬ (d.lasts.length : Int) < 4 * limit := by omega
  have a4 : IntKind.i64.wrap (4 * limit) = 4 * limit := by rw [IntKind.wrap_i64]; omega
  generalize ba (M.bytes crcSum ⟨0, 0, 0, 1, limit⟩) = b0 at *
  generalize ba (M.bytes crcSum ⟨1, 0, 0, 1, limit⟩) = b1 at *
  clear h hr hbd hb1 hb2 e1 e2 e3
  go_enter Tryd.func9, Tryd.ntmps9
  go_wp2_with fail
  refine HS.out.mono ?_
  rintro e w1 ⟨rfl, rfl⟩
  go_wp2_with fail
  go_loopg [22] 2 (fun kx v22 wr => ∃ (j : Nat), v22 = .int .i64 (j : Int) ∧ j ≤ 2 ∧ 2 - j ≤ kx ∧ Aside0 ((j = 0 → Dev w0 wr g d) ∧ (j = 1 → Dev w0 wr g d1) ∧ (j = 2 → Dev w0 wr g d2)))
  case atStart => exact ⟨0, rfl, by omega, by omega, ⟨fun _ => H.out, fun h => by omega, fun h => by omega⟩⟩
  case round =>
    clear H
    obtain ⟨j, rfl, hj, hjx, HD⟩ := hrel
    have hj3 : j = 0 ∨ j = 1 ∨ j = 2 := by omega
    rcases hj3 with rfl | rfl | rfl
    · have HD0 := Aside0.mk (HD.out.1 rfl)
      have e0 : ((0 : Nat) : Int) = 0 := rfl
      rw [e0]
      clear HD
      go_wp2_with fail
      refine (P0.out _ (HT.out.below HD0.out.2 HT.out.pos)).mono ?_
      rintro e w2 ⟨rfl, hb⟩
      have HD1 := Aside0.mk (HD0.out.later hb)
      clear hb
      go_wp2_with fail
      refine (W0.out _ HD1.out).mono ?_
      rintro e w3 ⟨rfl, hd⟩
      have HD2 := Aside0.mk hd
      clear hd
      go_wp2_with fail
      go_roundg 1
      case measure => omega
      case rel => exact ⟨1, rfl, by omega, by omega, ⟨fun h => by omega, fun _ => HD2.out, fun h => by omega⟩⟩
    · have HD0 := Aside0.mk (HD.out.2.1 rfl)
      have e0 : ((1 : Nat) : Int) = 1 := rfl
      rw [e0]
      clear HD
      go_wp2_with fail
      refine (P1.out _ (HT.out.below HD0.out.2 HT.out.pos)).mono ?_
      rintro e w2 ⟨rfl, hb⟩
      have HD1 := Aside0.mk (HD0.out.later hb)
      clear hb
      go_wp2_with fail
      refine (W1.out _ HD1.out).mono ?_
      rintro e w3 ⟨rfl, hd⟩
      have HD2 := Aside0.mk hd
      clear hd
      go_wp2_with fail
      go_roundg 0
      case measure => omega
      case rel => exact ⟨2, rfl, by omega, by omega, ⟨fun h => by omega, fun h => by omega, fun _ => HD2.out⟩⟩
    · have HD0 := Aside0.mk (HD.out.2.2 rfl)
      clear HD
      go_wp2_with fail
      refine (W2.out _ HD0.out).mono ?_
      rintro e w3 ⟨rfl, hd⟩
      have HD2 := Aside0.mk hd
      clear hd
      go_wp2_with fail
      go_ret
      exact ⟨rfl, HD2.out⟩
/-- A file is laid. -/
theorem format_dev (h : Dev w0 w g d) (hr : RowAt w0) (hc : Calm d) {k : Nat} (hbd : Bd d k) (hk : k + 3 < 1000000) (limit : Int) (h4 : 4 ≤ limit) (h5 : limit ≤ 512) (hl : 4 * limit ≤ (d.lasts.length : Int)) :
    ∃ d3, File crcSum d3 ⟨1, 0, 0, 1, limit⟩ ∧ d3.lasts.length = d.lasts.length ∧ opened crcSum d3 = (some ⟨⟨1, 0, 0, 1, limit⟩, ⟨0, 0, 0, 1, limit⟩, true, none⟩, 0) ∧ Bd d3 (k + 3) ∧
      Calls Tryd.prog 9 #[.pointer (some ⟨g, 0, none⟩), .int .i64 limit] w (Goes w0 g d3 (.int .i64 0)) := by
  obtain ⟨d1, d2, d3, e1, e2, e3, f1, f2, f3⟩ := formats3 (crc := crcSum) hc limit h4 h5 hl
  have hb1 := hbd.write 0 (ba (M.bytes crcSum ⟨0, 0, 0, 1, limit⟩))
  rw [e1] at hb1
  have hb2 := hb1.write 1 (ba (M.bytes crcSum ⟨1, 0, 0, 1, limit⟩))
  rw [e2] at hb2
  have hb3 := hb2.sync
  rw [e3] at hb3
  exact ⟨d3, f1, f2, f3, hb3, format_go h hr hbd hk limit h4 h5 hl d1 d2 d3 e1 e2 e3⟩
end
end Go.Proofs.YtjbkkmgkckopdaaDoor.Pg
