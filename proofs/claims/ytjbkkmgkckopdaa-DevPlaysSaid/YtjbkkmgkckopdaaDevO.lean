/- The law of the fuse. -/
import Derived.Test.YtjbkkmgkckopdaaDevL
import Derived.Laws.Bits128
namespace Go.Proofs.Ytjbkkmgkckopdaa.Dv
open Go.Proofs.Ytjbkkmgkckopdaa.PN (bcell)
open Go.RowKit Go.Proofs.YtjbkkmgkckopdaaW.PrintWords Go.Proofs.YtjbkkmgkckopdaaW.PrintLast Go.Proofs.YtjbkkmgkckopdaaW.PrintMore Go.Proofs.Ytjbkkmgkckopdaa.Mem
set_option linter.unusedVariables false
set_option linter.unusedSimpArgs false
section
variable {w0 w : World} {g : Nat} {d : D}
theorem Dev.fused (h : Dev w0 w g d) (n : Int) : Calls Try.prog 56 #[.pointer (some ⟨g, 0, none⟩), .int .i64 n] w (Goes w0 g (d.fused n).1 (.int .i64 (d.fused n).2)) := by
  obtain ⟨y, hy⟩ := h.1
  exact (fused_calls w hy n).mono fun e w' hd => h.does (fun k h => h) hd
theorem Dev.sync (h : Dev w0 w g d) {k : Nat} (hbd : Bd d k) (hk : k < 1000000) : Calls Try.prog 58 #[.pointer (some ⟨g, 0, none⟩)] w (Goes w0 g d.sync.1 (.int .i64 d.sync.2)) := by
  obtain ⟨y, hy⟩ := h.1
  have := hbd.s2
  exact (sync_calls w hy hbd.f0 hbd.f2 hbd.s0 (by omega)).mono fun e w' hd => h.does (fun k h => h) hd
theorem Dev.start (h : Dev w0 w g d) (p : Option Addr) (picks : List Int) (pc : Nat) (hp : Ints w (Fr w0) p picks) (hpl : picks.length ≤ 9223372036854775807) : Calls Try.prog 54 #[.pointer (some ⟨g, 0, none⟩), .slice p picks.length pc] w (Goes w0 g (d.start picks).1 (.int .i64 (d.start picks).2)) := by
  obtain ⟨y, hy⟩ := h.1
  exact (start_calls w hy p picks pc hp hpl).mono fun e w' hd => h.does (fun k h => h) hd
theorem Dev.act (h : Dev w0 w g d) (a : A) (p : Option Addr) (pc : Nat) (hp : Ints w (Fr w0) p a.picks) (hpl : a.picks.length ≤ 9223372036854775807) {k : Nat} (hbd : Bd d k) (hk : k < 1000000) : Calls Try.prog 50 #[.pointer (some ⟨g, 0, none⟩), .agg (a.cells p pc)] w (Goes w0 g (d.act a).1 (.int .i64 (d.act a).2)) := by
  obtain ⟨y, hy⟩ := h.1
  exact (does_calls w hy a p pc hp hpl hbd hk).mono fun e w' hd => h.does (fun k h => h) hd
theorem Dev.steps (h : Dev w0 w g d) : Calls Try.prog 60 #[.pointer (some ⟨g, 0, none⟩)] w (Say (.int .i64 d.steps) w) := by
  obtain ⟨y, hy⟩ := h.1
  exact steps_calls w hy
theorem Dev.writes (h : Dev w0 w g d) : Calls Try.prog 57 #[.pointer (some ⟨g, 0, none⟩)] w (Say (.int .i64 d.writes) w) := by
  obtain ⟨y, hy⟩ := h.1
  exact writes_calls w hy
theorem Dev.on (h : Dev w0 w g d) : Calls Try.prog 49 #[.pointer (some ⟨g, 0, none⟩)] w (Say (.bool (!d.off)) w) := by
  obtain ⟨y, hy⟩ := h.1
  exact on_calls w hy
theorem Dev.size (h : Dev w0 w g d) : Calls Try.prog 62 #[.pointer (some ⟨g, 0, none⟩)] w (Say (.int .i64 d.lasts.length) w) := by
  obtain ⟨y, hy⟩ := h.1
  exact size_calls w hy
theorem Dev.lasts (h : Dev w0 w g d) (i : Int) : Calls Try.prog 52 #[.pointer (some ⟨g, 0, none⟩), .int .i64 i] w (Say (.string (d.last i)) w) := by
  obtain ⟨y, hy⟩ := h.1
  exact lasts_calls w hy i
theorem Dev.waits (h : Dev w0 w g d) (i : Int) : Calls Try.prog 55 #[.pointer (some ⟨g, 0, none⟩), .int .i64 i] w (Say (.int .i64 (d.wait i)) w) := by
  obtain ⟨y, hy⟩ := h.1
  exact waits_calls w hy i
theorem new_dev (n : Nat) (h1 : 1 ≤ n) (hn : n ≤ 2048) {w0 w : World} (hb : Below w0.heap.size w0 w) : Calls Try.prog 47 #[.int .i64 (n : Int)] w (fun e w' => ∃ g, e = .returned (.tuple #[.pointer (some ⟨g, 0, none⟩), .int .i64 0]) ∧ Dev w0 w' g (Dv.fresh n)) := by
  refine (new_calls n h1 hn w).mono ?_
  rintro e w' ⟨g, y, rfl, hy, hb2⟩
  have hs := hb.size
  exact ⟨g, rfl, ⟨y, hy.move (fun _ _ _ => rfl) (fun k h _ => Nat.le_trans hs h)⟩, hb.trans (hb2.mono hs)⟩
end
theorem i64_and31 (n : Int) : bits .and .i64 n 31 = n % 32 := by
  have h127 : (BitVec.ofInt 64 31).toNat = 2 ^ 5 - 1 := by decide
  have key : (BitVec.ofInt 64 n &&& BitVec.ofInt 64 31).toNat = (n % ((2 ^ 64 : Nat) : Int)).toNat % 2 ^ 5 := by
    rw [BitVec.toNat_and, BitVec.toNat_ofInt, h127, Nat.and_two_pow_sub_one_eq_mod]
  show IntKind.i64.wrap ((BitVec.ofInt 64 n &&& BitVec.ofInt 64 31).toNat : Nat) = n % 32
  rw [key, IntKind.wrap_i64]
  omega
/-- The device after k steps of a fuse of N. -/
structure St (d : D) (k N : Nat) : Prop where
  len : d.lasts.length = 1
  bd : Bd d k
  steps : d.steps = k
  lit : k < N → d.off = false ∧ d.fuse = (N : Int) - k
  dark : k = N → d.off = true
theorem St.start (N : Nat) (h : 1 ≤ N) (h2 : N ≤ 32) : St { Dv.fresh 1 with fuse := (N : Int) } 0 N :=
  ⟨rfl, ⟨by simp, by simp; omega, by simp [Dv.fresh], by simp [Dv.fresh], by simp [Dv.fresh], by simp [Dv.fresh], fun n => by simp [Dv.fresh, look]⟩, rfl, fun _ => ⟨rfl, by simp⟩, fun h => by omega⟩
theorem St.step {d : D} {k N : Nat} (h : St d k N) (hk : k < N) : d.step.2 = decide (k + 1 < N) ∧ St d.step.1 (k + 1) N ∧ d.step.1.lasts = d.lasts ∧ d.step.1.waits = d.waits ∧ d.step.1.writes = d.writes := by
  obtain ⟨k1, k2, k3⟩ := step_keeps d
  obtain ⟨ho, hf⟩ := h.lit hk
  have hs := h.steps
  have hb := h.bd.step
  have hl := h.len
  by_cases h1 : d.fuse = 1
  · have e : d.step = ({ d with steps := d.steps + 1, off := true, fuse := 0 }, false) := by unfold D.step; rw [if_neg (by rw [ho]; decide), if_pos h1]
    rw [e] at hb ⊢
    exact ⟨(decide_eq_false (by omega)).symm, ⟨hl, hb, by simp only; omega, fun h2 => by omega, fun _ => rfl⟩, rfl, rfl, rfl⟩
  · have e : d.step = ({ d with steps := d.steps + 1, fuse := max 0 (d.fuse - 1) }, true) := by unfold D.step; rw [if_neg (by rw [ho]; decide), if_neg h1]
    rw [e] at hb ⊢
    exact ⟨(decide_eq_true (by omega)).symm, ⟨hl, hb, by simp only; omega, fun h2 => ⟨ho, by simp only; omega⟩, fun h2 => by omega⟩, rfl, rfl, rfl⟩
theorem St.sync {d : D} {k N : Nat} (h : St d k N) (hk : k < N) : d.sync.2 = (if k + 1 < N then 0 else 6) ∧ St d.sync.1 (k + 1) N ∧ (k + 1 = N → d.sync.1.writes = d.writes) := by
  obtain ⟨h1, h2, h3, h4, h5⟩ := h.step hk
  unfold D.sync
  by_cases hl : k + 1 < N
  · rw [h1, decide_eq_true hl, if_neg (by decide), if_pos hl]
    refine ⟨rfl, ⟨?_, ⟨h2.bd.f0, h2.bd.f2, h2.bd.s0, h2.bd.s2, h2.bd.w0, h2.bd.w2, fun n => by simp [look]⟩, h2.steps, h2.lit, h2.dark⟩, fun e => h5⟩
    show (settle d.lasts d.waits).length = 1
    unfold settle
    rw [List.length_mapIdx, h.len]
  · rw [h1, decide_eq_false hl, if_pos rfl, if_neg hl]
    exact ⟨rfl, h2, fun _ => h5⟩
theorem St.write {d : D} {k N : Nat} (h : St d k N) (hk : k < N) (s : S) (hs : s.size = 128) : (d.write 0 s).2 = (if k + 1 < N then 0 else 6) ∧ St (d.write 0 s).1 (k + 1) N ∧ (k + 1 = N → (d.write 0 s).1.writes = d.writes) := by
  obtain ⟨h1, h2, h3, h4, h5⟩ := h.step hk
  have hl0 := h.len
  have hbw := h.bd.w2
  have hbf := h.bd.few
  unfold D.write
  rw [if_neg (by omega)]
  by_cases hl : k + 1 < N
  · rw [h1, decide_eq_true hl, if_neg (by decide), if_pos hl]
    refine ⟨rfl, ⟨h2.len, ⟨h2.bd.f0, h2.bd.f2, h2.bd.s0, h2.bd.s2, ?_, ?_, fun n => ?_⟩, h2.steps, h2.lit, h2.dark⟩, fun e => by omega⟩
    · have := h2.bd.w0; simp only; omega
    · simp only [h5]; omega
    · simp only [look_more, h4]
      have := hbf n
      split
      · rw [List.length_append]; simp; omega
      · omega
  · rw [h1, decide_eq_false hl, if_pos rfl, if_neg hl]
    exact ⟨rfl, h2, fun _ => h5⟩
theorem St.over {d : D} {N : Nat} (h : St d N N) : d.sync = (d, 6) := by
  have := h.dark rfl
  have e : d.step = (d, false) := by unfold D.step; rw [if_pos this]
  unfold D.sync
  rw [e, if_pos rfl]
set_option maxHeartbeats 4000000 in
set_option maxRecDepth 1000000 in
theorem devFuses_calls (n syncs : Int) (w : World) : Calls Try.prog 10 #[.int .i64 n, .int .i64 syncs] w (Tell (.bool true) w) := by
  have HA := Aside0.mk awake_calls
  have HN := fun W hb => Aside0.mk (show Calls Try.prog 47 #[.int .i64 1] W _ from new_dev 1 (by omega) (by omega) (w0 := w) (w := W) hb)
  have HNN := Aside0.mk HN
  have HSec := Aside0.mk (fun c W => (sector_calls c W).mono fun e w' h => (⟨sec c, sec_size c, h.1, h.2⟩ : ∃ s : S, s.size = 128 ∧ e = .returned (.string s) ∧ Below W.heap.size W w'))
  clear HN
  obtain ⟨N, hN, hN1, hN2⟩ : ∃ N : Nat, wrap64 (1 + bits .and .i64 n 31) = (N : Int) ∧ 1 ≤ N ∧ N ≤ 32 := by
    rw [i64_and31, IntWalk.wrap64_in _ (by omega)]
    exact ⟨(1 + n % 32).toNat, by omega, by omega, by omega⟩
  have HNe := Aside0.mk hN
  clear hN
  go_enter Try.func10, Try.ntmps10
  go_wp2_with fail
  refine (HA.out _).mono ?_
  rintro e w1 ⟨rfl, hb⟩
  go_wp2_with fail
  refine (HNN.out _ hb).out.mono ?_
  rintro e w2 ⟨g, rfl, hd⟩
  have HF := Aside0.mk (hd.fused (N : Int))
  rw [show (Dv.fresh 1).fused (N : Int) = ({ Dv.fresh 1 with fuse := (N : Int) }, 0) by unfold D.fused; rw [if_neg (by decide)]; simp [Int.max_eq_right]] at HF
  clear hd hb HA HNN
  go_wp2_with fail
  rw [HNe.out]
  refine HF.out.mono ?_
  rintro e w3 ⟨rfl, hd⟩
  have HD := Aside0.mk hd
  have HSt := Aside0.mk (St.start N hN1 hN2)
  clear hd HF
  have h31 := i64_and31
  go_wp2_with fail
  go_loopg [7] N (fun kx v7 wr => ∃ (k : Nat) (d : D), v7 = .int .i64 ((k : Int) + 1) ∧ k ≤ N ∧ N - k ≤ kx ∧ Aside0 (Dev w wr g d) ∧ Aside0 (St d k N))
  case atStart => exact ⟨0, _, by simp, Nat.zero_le _, by omega, HD, HSt⟩
  case round =>
    clear HD HSt
    obtain ⟨k, d, rfl, hk, hkk, HD, HSt⟩ := hrel
    by_cases hgo : k < N
    · have a1 : (k : Int) + 1 ≤ (N : Int) := by omega
      have a2 : decide ((k : Int) + 1 ≤ (N : Int)) = true := decide_eq_true a1
      have w1 : IntKind.i64.wrap ((k : Int) + 1 + 1) = (k : Int) + 1 + 1 := by rw [IntKind.wrap_i64]; omega
      have HW := Aside0.mk HD.out.writes
      have HSy := Aside0.mk (HD.out.sync HSt.out.bd (by omega))
      have HSR := Aside0.mk (HSt.out.sync hgo)
      have HWr := fun w' hb s => Aside0.mk ((HD.out.later (w' := w') hb).write 0 s HSt.out.bd (by omega))
      have HWW := Aside0.mk HWr
      have HWR := Aside0.mk (HSt.out.write hgo)
      have s0 : (0 : Int) ≤ ((k : Int) + 1) % 32 := by omega
      have s1 : ((k : Int) + 1) % 32 ≤ 64 := by omega
      clear HWr
      go_wp2_with fail
      refine HW.out.mono ?_
      rintro e w4 ⟨rfl, rfl⟩
      go_wp2_with fail
      · refine HSy.out.mono ?_
        intro e w5 hd
        obtain ⟨hres, hst, hwr⟩ := HSR.out
        unfold Goes at hd
        rw [hres] at hd
        generalize d.sync.1 = d' at hd hst hwr
        clear HSy HSR HWW HWR HD HSt hres
        by_cases hl : k + 1 < N
        · rw [if_pos hl] at hd
          have c1 : (k : Int) + 1 < (N : Int) := by omega
          have c2 : decide ((k : Int) + 1 < (N : Int)) = true := decide_eq_true c1
          have c3 : ¬ (k : Int) + 1 = (N : Int) := by omega
          obtain ⟨rfl, hd⟩ := hd
          have HS := Aside0.mk hd.steps
          have HO := Aside0.mk hd.on
          have HW2 := Aside0.mk hd.writes
          rw [hst.steps] at HS
          rw [(hst.lit (by omega)).1] at HO
          skip
          have HD3 := Aside0.mk hd
          have HS3 := Aside0.mk hst
          clear hd hst hwr hgo hl
          go_wp2_with fail
          refine HS.out.mono ?_
          rintro e w5 ⟨rfl, rfl⟩
          go_wp2_with fail
          refine HO.out.mono ?_
          rintro e w5 ⟨rfl, rfl⟩
          go_wp2_with fail
          go_roundg (N - (k + 1))
          case measure => omega
          case rel => exact ⟨k + 1, _, by simp <;> omega, by omega, Nat.le_refl _, HD3, HS3⟩
        · rw [if_neg hl] at hd
          have c1 : ¬ (k : Int) + 1 < (N : Int) := by omega
          have c2 : decide ((k : Int) + 1 < (N : Int)) = false := decide_eq_false c1
          have c3 : (k : Int) + 1 = (N : Int) := by omega
          obtain ⟨rfl, hd⟩ := hd
          have HS := Aside0.mk hd.steps
          have HO := Aside0.mk hd.on
          have HW2 := Aside0.mk hd.writes
          rw [hst.steps] at HS
          rw [hst.dark (by omega)] at HO
          rw [hwr (by omega)] at HW2
          have HD3 := Aside0.mk hd
          have HS3 := Aside0.mk hst
          clear hd hst hwr hgo hl
          go_wp2_with fail
          refine HS.out.mono ?_
          rintro e w5 ⟨rfl, rfl⟩
          go_wp2_with fail
          refine HO.out.mono ?_
          rintro e w5 ⟨rfl, rfl⟩
          go_wp2_with fail
          refine HW2.out.mono ?_
          rintro e w5 ⟨rfl, rfl⟩
          go_wp2_with fail
          go_roundg (N - (k + 1))
          case measure => omega
          case rel => exact ⟨k + 1, _, by simp <;> omega, by omega, Nat.le_refl _, HD3, HS3⟩
      · refine (HSec.out _ _).mono ?_
        rintro e w6 ⟨s, hs, rfl, hb⟩
        have HWQ := (HWW.out _ hb s)
        have HS2 := Aside0.mk hs
        clear hs
        go_wp2_with fail
        refine HWQ.out.mono ?_
        intro e w5 hd
        obtain ⟨hres, hst, hwr⟩ := HWR.out _ HS2.out
        unfold Goes at hd
        rw [hres] at hd
        generalize (d.write 0 s).1 = d' at hd hst hwr
        clear HSy HSR HWW HWR HD HSt hres HWQ hb
        by_cases hl : k + 1 < N
        · rw [if_pos hl] at hd
          have c1 : (k : Int) + 1 < (N : Int) := by omega
          have c2 : decide ((k : Int) + 1 < (N : Int)) = true := decide_eq_true c1
          have c3 : ¬ (k : Int) + 1 = (N : Int) := by omega
          obtain ⟨rfl, hd⟩ := hd
          have HS := Aside0.mk hd.steps
          have HO := Aside0.mk hd.on
          have HW2 := Aside0.mk hd.writes
          rw [hst.steps] at HS
          rw [(hst.lit (by omega)).1] at HO
          skip
          have HD3 := Aside0.mk hd
          have HS3 := Aside0.mk hst
          clear hd hst hwr hgo hl
          go_wp2_with fail
          refine HS.out.mono ?_
          rintro e w5 ⟨rfl, rfl⟩
          go_wp2_with fail
          refine HO.out.mono ?_
          rintro e w5 ⟨rfl, rfl⟩
          go_wp2_with fail
          go_roundg (N - (k + 1))
          case measure => omega
          case rel => exact ⟨k + 1, _, by simp <;> omega, by omega, Nat.le_refl _, HD3, HS3⟩
        · rw [if_neg hl] at hd
          have c1 : ¬ (k : Int) + 1 < (N : Int) := by omega
          have c2 : decide ((k : Int) + 1 < (N : Int)) = false := decide_eq_false c1
          have c3 : (k : Int) + 1 = (N : Int) := by omega
          obtain ⟨rfl, hd⟩ := hd
          have HS := Aside0.mk hd.steps
          have HO := Aside0.mk hd.on
          have HW2 := Aside0.mk hd.writes
          rw [hst.steps] at HS
          rw [hst.dark (by omega)] at HO
          rw [hwr (by omega)] at HW2
          have HD3 := Aside0.mk hd
          have HS3 := Aside0.mk hst
          clear hd hst hwr hgo hl
          go_wp2_with fail
          refine HS.out.mono ?_
          rintro e w5 ⟨rfl, rfl⟩
          go_wp2_with fail
          refine HO.out.mono ?_
          rintro e w5 ⟨rfl, rfl⟩
          go_wp2_with fail
          refine HW2.out.mono ?_
          rintro e w5 ⟨rfl, rfl⟩
          go_wp2_with fail
          go_roundg (N - (k + 1))
          case measure => omega
          case rel => exact ⟨k + 1, _, by simp <;> omega, by omega, Nat.le_refl _, HD3, HS3⟩
    · obtain rfl : k = N := by omega
      have HSy := Aside0.mk (HD.out.sync HSt.out.bd (by omega))
      rw [HSt.out.over] at HSy
      have hss := HSt.out.steps
      have a1 : ¬ (k : Int) + 1 ≤ (k : Int) := by omega
      have a2 : decide ((k : Int) + 1 ≤ (k : Int)) = false := decide_eq_false a1
      have HX := Aside0.mk hss
      clear hss HD hgo
      go_wp2_with fail
      refine HSy.out.mono ?_
      rintro e w5 ⟨rfl, hd⟩
      have HS := Aside0.mk hd.steps
      rw [HX.out] at HS
      have HB := Aside0.mk hd.2
      clear hd
      go_wp2_with fail
      refine HS.out.mono ?_
      rintro e w6 ⟨rfl, rfl⟩
      go_wp2_with fail
      go_ret
      exact ⟨rfl, HB.out⟩
end Go.Proofs.Ytjbkkmgkckopdaa.Dv
