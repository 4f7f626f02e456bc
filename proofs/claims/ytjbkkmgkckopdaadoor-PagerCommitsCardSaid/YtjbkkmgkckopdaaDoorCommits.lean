/- PagerCommits: the walk. -/
import Derived.Test.YtjbkkmgkckopdaaDoorDone
import Derived.Test.YtjbkkmgkckopdaaDoorInts
import Derived.Deep.RegionHeld3
namespace Go.Proofs.YtjbkkmgkckopdaaDoor.Pg
open Go.RowKit Go.Proofs.YtjbkkmgkckopdaaDoorW.PrintWords Go.Proofs.YtjbkkmgkckopdaaDoorW.PrintLast Go.Proofs.YtjbkkmgkckopdaaDoorW.PrintMore Go.Proofs.YtjbkkmgkckopdaaDoor.Num Go.Proofs.YtjbkkmgkckopdaaDoor.Mem Go.Proofs.YtjbkkmgkckopdaaDoor.Dv
set_option linter.unusedVariables false
set_option linter.unusedSimpArgs false
theorem seals_dev {d : D} {p : G} {m : M} (hs : p.shut = none) (hm : m.right) (ht : m.txn = p.cur.txn + 1) (hl : m.limit = p.cur.limit) : (seals crcSum d p m).1 = (d.write (m.txn % 2) (ba (m.bytes crcSum))).1 := by
  rcases hw : d.write (m.txn % 2) (ba (m.bytes crcSum)) with ⟨d1, c⟩
  rw [seals_eq hs hm ht hl hw]
  split <;> rfl
theorem done_dev {d : D} {p : G} {m : M} (hs : p.shut = some m) : (done d p).1 = d.sync.1 := by
  rcases hw : d.sync with ⟨d1, c⟩
  rw [done_eq hs hw]
  split <;> rfl
theorem bd_fused {d : D} {k : Nat} (h : Bd d k) (n : Int) (hn : n ≤ 9223372036854775807) : Bd (d.fused n).1 k := by
  unfold D.fused
  split
  · exact h
  · exact ⟨by simp only; omega, by simp only; omega, h.s0, h.s2, h.w0, h.w2, h.few⟩
theorem read0_of_opened {d : D} {q : G} (h : opened crcSum d = (some q, 0)) : d.read 0 = ((d.read 0).1, 0) := by
  unfold opened at h
  by_cases h0 : (d.read 0).2 ≠ 0
  · rw [if_pos h0] at h
    cases h
  · have : (d.read 0).2 = 0 := Decidable.not_not.mp h0
    exact Prod.ext rfl this
section
variable {w0 w w' : World} {g gp : Nat} {d d' : D} {p : G} {K : Nat → Obj → Prop}
theorem seal_calls (h : PK K w0 w g d gp p) (hr : RowAt w0) (hs : p.shut = none) (m : M) (hm : m.right) (hl : m.limit = p.cur.limit) (ht : m.txn = p.cur.txn + 1) {k : Nat} (hbd : Bd d k) (hk : k < 1000000) :
    Calls Tryd.prog 19 #[.pointer (some ⟨gp, 0, none⟩), .agg m.cells] w (SealPost K w0 g gp (seals crcSum d p m)) := by
  rcases hw : d.write (m.txn % 2) (ba (m.bytes crcSum)) with ⟨d1, c⟩
  rw [seals_eq hs hm ht hl hw]
  exact seal_go h hr hs m hm hl ht hbd hk d1 c hw
theorem done_calls (h : PK K w0 w g d gp p) (m : M) (hs : p.shut = some m) {k : Nat} (hbd : Bd d k) (hk : k < 1000000) :
    Calls Tryd.prog 20 #[.pointer (some ⟨gp, 0, none⟩)] w (SealPost K w0 g gp (done d p)) := by
  rcases hw : d.sync with ⟨d1, c⟩
  rw [done_eq hs hw]
  exact done_go h m hs hbd hk d1 c hw
theorem PK.start (h : PK K w0 w g d gp p) (q : Option Addr) (picks : List Int) (pc : Nat) (hp : IntsAt w0 q picks) (hpl : picks.length ≤ 9223372036854775807) :
    Calls Tryd.prog 26 #[.pointer (some ⟨g, 0, none⟩), .slice q picks.length pc] w (fun e w' => e = .returned (.int .i64 (d.start picks).2) ∧ PK K w0 w' g (d.start picks).1 gp p) :=
  h.does fun ok y hk hy => start_calls w hy q picks pc (fun j hj => by
    obtain ⟨a, e1, e2, e3⟩ := hp.ints h.below j hj
    exact ⟨a, e1, e2, fun ho => e3 (hk _ ho)⟩) hpl
theorem PK.on (h : PK K w0 w g d gp p) : Calls Tryd.prog 24 #[.pointer (some ⟨g, 0, none⟩)] w (Say (.bool (!d.off)) w) := by
  obtain ⟨y, hy⟩ := h.pd.dev.1
  exact Dv.on_calls w hy
theorem PK.steps (h : PK K w0 w g d gp p) : Calls Tryd.prog 27 #[.pointer (some ⟨g, 0, none⟩)] w (Say (.int .i64 d.steps) w) := by
  obtain ⟨y, hy⟩ := h.pd.dev.1
  exact steps_calls w hy
/-- The file after k rounds. -/
structure Lo (w0 w : World) (g gp : Nat) (d : D) (p : G) (k : Nat) : Prop where
  pd : PD w0 w g d gp p
  file : File crcSum d p.cur
  shut : p.shut = none
  len : d.lasts.length = 24
  lim : p.cur.limit = 6
  txn : p.cur.txn = (k : Int) + 1
  bd : Bd d (3 + 2 * k)
theorem m2_right (t R : Int) (h0 : 0 ≤ t) (h1 : t ≤ 100) (r0 : 0 ≤ R) (r3 : R ≤ 3) : M.right ⟨t + 1, R, 0, 4, 6⟩ := by
  unfold M.right
  dsimp only
  omega
theorem Lo.round {k : Nat} (h : Lo w0 w g gp d p k) (hr : RowAt w0) (hk : k < 10) : ∃ d1 d2,
    (∀ W, PD w0 W g d gp p → Calls Tryd.prog 19 #[.pointer (some ⟨gp, 0, none⟩), .agg #[.int .i64 (p.cur.txn + 1), .int .i64 0, .int .i64 0, .int .i64 4, .int .i64 6]] W (fun e w' => e = .returned (.int .i64 0) ∧ PD w0 w' g d1 gp { p with shut := some ⟨p.cur.txn + 1, 0, 0, 4, 6⟩ })) ∧
    (∀ W, PD w0 W g d1 gp { p with shut := some ⟨p.cur.txn + 1, 0, 0, 4, 6⟩ } → Calls Tryd.prog 20 #[.pointer (some ⟨gp, 0, none⟩)] W (fun e w' => e = .returned (.int .i64 0) ∧ Lo w0 w' g gp d2 ⟨⟨p.cur.txn + 1, 0, 0, 4, 6⟩, p.cur, true, none⟩ (k + 1))) := by
  have ht := h.txn
  have hm := m2_right p.cur.txn 0 (by omega) (by omega) (by omega) (by omega)
  have hl6 : (M.limit ⟨p.cur.txn + 1, 0, 0, 4, 6⟩) = p.cur.limit := h.lim.symm
  obtain ⟨d1, d2, e1, e2, e3, e4⟩ := sealed_done h.file rfl h.shut hm rfl hl6
  have b1 := h.bd.write ((p.cur.txn + 1) % 2) (ba (M.bytes crcSum ⟨p.cur.txn + 1, 0, 0, 4, 6⟩))
  rw [← show (seals crcSum d p ⟨p.cur.txn + 1, 0, 0, 4, 6⟩).1 = (d.write ((p.cur.txn + 1) % 2) (ba (M.bytes crcSum ⟨p.cur.txn + 1, 0, 0, 4, 6⟩))).1 from seals_dev h.shut hm rfl hl6, e1] at b1
  have b2 := b1.sync
  rw [← done_dev (p := { p with shut := some ⟨p.cur.txn + 1, 0, 0, 4, 6⟩ }) rfl, e2] at b2
  refine ⟨d1, d2, fun W hW => ?_, fun W hW => ?_⟩
  · have := seal_calls hW.pk hr h.shut ⟨p.cur.txn + 1, 0, 0, 4, 6⟩ hm hl6 rfl h.bd (by omega)
    rw [e1] at this
    exact this.mono fun e w' h => ⟨h.1, h.2.pd⟩
  · have := done_calls hW.pk ⟨p.cur.txn + 1, 0, 0, 4, 6⟩ rfl b1 (by omega)
    rw [e2] at this
    exact this.mono fun e w' h' => ⟨h'.1, h'.2.pd, e3, rfl, e4.trans h.len, rfl, by show p.cur.txn + 1 = _; rw [ht]; push_cast; rfl, by have := b2; rwa [show 3 + 2 * k + 1 + 1 = 3 + 2 * (k + 1) by omega] at this⟩
theorem Lo.ends {k : Nat} (h : Lo w0 w g gp d p k) (hr : RowAt w0) (hk : k < 10) (R : Int) (r0 : 0 ≤ R) (r3 : R ≤ 3) (n : Int) (hn : n ≤ 9223372036854775807) : ∃ d0,
    (∀ K W, PK K w0 W g d gp p → Calls Tryd.prog 23 #[.pointer (some ⟨g, 0, none⟩), .int .i64 n] W (fun e w' => e = .returned (.int .i64 0) ∧ PK K w0 w' g d0 gp p)) ∧
    ((∃ d1, (∀ K W, PK K w0 W g d0 gp p → Calls Tryd.prog 19 #[.pointer (some ⟨gp, 0, none⟩), .agg #[.int .i64 (p.cur.txn + 1), .int .i64 R, .int .i64 0, .int .i64 4, .int .i64 6]] W (fun e w' => e = .returned (.int .i64 6) ∧ PK K w0 w' g d1 gp p)) ∧ ∀ picks, ∃ q, opened crcSum (afresh d1 picks) = (some q, 0) ∧ q.cur = p.cur) ∨
     (∃ d1 p1, (∀ K W, PK K w0 W g d0 gp p → Calls Tryd.prog 19 #[.pointer (some ⟨gp, 0, none⟩), .agg #[.int .i64 (p.cur.txn + 1), .int .i64 R, .int .i64 0, .int .i64 4, .int .i64 6]] W (fun e w' => e = .returned (.int .i64 0) ∧ PK K w0 w' g d1 gp p1)) ∧
       ((∃ d2 p2, (∀ K W, PK K w0 W g d1 gp p1 → Calls Tryd.prog 20 #[.pointer (some ⟨gp, 0, none⟩)] W (fun e w' => e = .returned (.int .i64 6) ∧ PK K w0 w' g d2 gp p2)) ∧ ∀ picks, ∃ q, opened crcSum (afresh d2 picks) = (some q, 0) ∧ (q.cur = p.cur ∨ q.cur = ⟨p.cur.txn + 1, R, 0, 4, 6⟩)) ∨
        (∃ d2 p2, (∀ K W, PK K w0 W g d1 gp p1 → Calls Tryd.prog 20 #[.pointer (some ⟨gp, 0, none⟩)] W (fun e w' => e = .returned (.int .i64 0) ∧ PK K w0 w' g d2 gp p2)) ∧ ∀ picks, ∃ q, opened crcSum (afresh d2 picks) = (some q, 0) ∧ q.cur = ⟨p.cur.txn + 1, R, 0, 4, 6⟩)))) := by
  have ht := h.txn
  have hm := m2_right p.cur.txn R (by omega) (by omega) r0 r3
  have hl6 : (M.limit ⟨p.cur.txn + 1, R, 0, 4, 6⟩) = p.cur.limit := h.lim.symm
  obtain ⟨d0, e0, hc⟩ := commits h.file rfl h.shut hm rfl hl6 (by rw [h.lim, h.len]; decide) n
  have b0 := bd_fused h.bd n hn
  rw [e0] at b0
  have b1 := b0.write ((p.cur.txn + 1) % 2) (ba (M.bytes crcSum ⟨p.cur.txn + 1, R, 0, 4, 6⟩))
  rw [← show (seals crcSum d0 p ⟨p.cur.txn + 1, R, 0, 4, 6⟩).1 = (d0.write ((p.cur.txn + 1) % 2) (ba (M.bytes crcSum ⟨p.cur.txn + 1, R, 0, 4, 6⟩))).1 from seals_dev h.shut hm rfl hl6] at b1
  have S : ∀ K W, PK K w0 W g d0 gp p → Calls Tryd.prog 19 #[.pointer (some ⟨gp, 0, none⟩), .agg #[.int .i64 (p.cur.txn + 1), .int .i64 R, .int .i64 0, .int .i64 4, .int .i64 6]] W (SealPost K w0 g gp (seals crcSum d0 p ⟨p.cur.txn + 1, R, 0, 4, 6⟩)) :=
    fun K W hW => seal_calls hW hr h.shut ⟨p.cur.txn + 1, R, 0, 4, 6⟩ hm hl6 rfl b0 (by omega)
  refine ⟨d0, fun K W hW => ?_, ?_⟩
  · have := hW.fused n
    rw [e0] at this
    exact this
  · rcases hc with ⟨d1, e1, hq⟩ | ⟨d1, e1, hc⟩
    · rw [e1] at S
      exact .inl ⟨d1, S, hq⟩
    · rw [e1] at S b1
      have T : ∀ K W, PK K w0 W g d1 gp { p with shut := some ⟨p.cur.txn + 1, R, 0, 4, 6⟩ } → Calls Tryd.prog 20 #[.pointer (some ⟨gp, 0, none⟩)] W (SealPost K w0 g gp (done d1 { p with shut := some ⟨p.cur.txn + 1, R, 0, 4, 6⟩ })) :=
        fun K W hW => done_calls hW ⟨p.cur.txn + 1, R, 0, 4, 6⟩ rfl b1 (by omega)
      refine .inr ⟨d1, _, S, ?_⟩
      rcases hc with ⟨d2, e2, hq⟩ | ⟨d2, e2, hq⟩
      · rw [e2] at T
        exact .inl ⟨d2, _, T, hq⟩
      · rw [e2] at T
        exact .inr ⟨d2, _, T, hq⟩
end
theorem PD.base {w W w' : World} {g gp : Nat} {d : D} {p : G} (h : PD W w' g d gp p) (hs : p.shut = none) (hb : Below w.heap.size w W) : PD w w' g d gp p := by
  obtain ⟨ok, y, sp, h1, h2, h3, h4, h5, h6⟩ := h.at_
  have l := hb.size
  refine ⟨⟨ok, y, sp, h1, fun k hk => ⟨Nat.le_trans l (h2 k hk).1, (h2 k hk).2⟩, h3, Nat.le_trans l h4, h5, ?_⟩, hb.trans (h.below.mono l)⟩
  rw [hs] at h6 ⊢
  exact h6
theorem fld0 (a b c d e : Value) (W : World) : (Instr.field 32 (.agg #[a, b, c, d, e]) 0).run Tryd.prog W = .ok a W := by
  kernel_rfl
/-- Two blocks are kept. -/
def Two (b1 : Nat) (o1 : Obj) (b2 : Nat) (o2 : Obj) : Nat → Obj → Prop := fun b o => (b = b1 ∧ o = o1) ∨ (b = b2 ∧ o = o2)
theorem i64_and7 (n : Int) : bits .and .i64 n 7 = n % 8 := by
  have h127 : (BitVec.ofInt 64 7).toNat = 2 ^ 3 - 1 := by decide
  have key : (BitVec.ofInt 64 n &&& BitVec.ofInt 64 7).toNat = (n % ((2 ^ 64 : Nat) : Int)).toNat % 2 ^ 3 := by
    rw [BitVec.toNat_and, BitVec.toNat_ofInt, h127, Nat.and_two_pow_sub_one_eq_mod]
  show IntKind.i64.wrap ((BitVec.ofInt 64 n &&& BitVec.ofInt 64 7).toNat : Nat) = n % 8
  rw [key, IntKind.wrap_i64]
  omega
theorem i64_and3 (n : Int) : bits .and .i64 n 3 = n % 4 := by
  have h127 : (BitVec.ofInt 64 3).toNat = 2 ^ 2 - 1 := by decide
  have key : (BitVec.ofInt 64 n &&& BitVec.ofInt 64 3).toNat = (n % ((2 ^ 64 : Nat) : Int)).toNat % 2 ^ 2 := by
    rw [BitVec.toNat_and, BitVec.toNat_ofInt, h127, Nat.and_two_pow_sub_one_eq_mod]
  show IntKind.i64.wrap ((BitVec.ofInt 64 n &&& BitVec.ofInt 64 3).toNat : Nat) = n % 4
  rw [key, IntKind.wrap_i64]
  omega
set_option maxHeartbeats 8000000 in
set_option maxRecDepth 100000 in
theorem commits_calls (n r f : Int) (hf : f ≤ 9223372036854775807) (q : Option Addr) (picks : List Int) (pc : Nat) (w : World) (hp : IntsAt w q picks) (hpl : picks.length ≤ 9223372036854775807) (hr : RowAt w) :
    Calls Tryd.prog 6 #[.int .i64 n, .int .i64 r, .int .i64 f, .slice q picks.length pc] w (Tell (.bool true) w) := by
  have HA := Aside0.mk (awake_calls w hr)
  have HB := Aside0.mk (fun W (hb : Below w.heap.size w W) => begin_calls W (hr.below hb hr.pos))
  have HL := Aside0.mk (fun W g gp d p k (h : Lo w W g gp d p k) (hk : k < 10) => h.round hr hk)
  have HO := Aside0.mk (fun W g d (h : Dev w W g d) s0 h0 => open_dev h hr s0 h0)
  have HS := Aside0.mk (fun K W g d gp p (h : PK K w W g d gp p) => h.start q picks pc hp hpl)
  obtain ⟨R, hR, R0, R3⟩ : ∃ R : Int, bits .and .i64 r 3 = R ∧ 0 ≤ R ∧ R ≤ 3 := ⟨_, i64_and3 r, by omega, by omega⟩
  obtain ⟨N, hN, hN7⟩ : ∃ N : Nat, bits .and .i64 n 7 = (N : Int) ∧ N ≤ 7 := ⟨(n % 8).toNat, by rw [i64_and7]; omega, by omega⟩
  have HE := Aside0.mk (fun W g gp d p k (h : Lo w W g gp d p k) (hk : k < 10) => h.ends hr hk R R0 R3 f hf)
  clear hr R0 R3 hf hp hpl
  generalize picks.length = pn at *
  have fl := fld0
  go_enter Tryd.func6, Tryd.ntmps6
  go_wp2_with fail
  refine HA.out.mono ?_
  rintro e w1 ⟨rfl, hb⟩
  go_wp2_with fail
  refine (HB.out _ hb).mono ?_
  rintro e w2 ⟨g, gp, d, rfl, hpd, hfile, hlen, hbd⟩
  have H0 : Aside0 (Lo w w2 g gp d (firstG 6) 0) := Aside0.mk ⟨hpd.base rfl hb, hfile, rfl, hlen, rfl, rfl, hbd⟩
  clear hb hpd hfile hlen hbd HA HB
  go_wp2_with fail
  go_loopg [11] N (fun kx v11 wr => ∃ (k : Nat), v11 = .int .i64 (k : Int) ∧ k ≤ N ∧ N - k ≤ kx ∧ Aside0 (∃ d p, Lo w wr g gp d p k))
  case atStart => exact ⟨0, rfl, by omega, by omega, ⟨_, _, H0.out⟩⟩
  case round =>
    clear H0 hN
    obtain ⟨k, rfl, hk, hkx, HK⟩ := hrel
    obtain ⟨d, p, h⟩ := HK.out
    have HH := Aside0.mk h
    have HT := Aside0.mk h.txn
    have HM := Aside0.mk h.pd.meta
    clear h HK
    by_cases hgo : k < N
    · have a2 : decide ((k : Int) < (N : Int)) = true := decide_eq_true (by omega)
      obtain ⟨d1, d2, s1, s2⟩ := HL.out _ _ _ _ _ _ HH.out (by omega)
      have HS1 := Aside0.mk s1
      have HS2 := Aside0.mk s2
      obtain ⟨p0, hp0⟩ : ∃ p0, p0 = p := ⟨_, rfl⟩
      rw [← hp0] at HH HS1 HS2
      have HP0 := Aside0.mk hp0
      obtain ⟨⟨t, r0, f0, g0, l0⟩, oth, both, shut⟩ := p
      have HT2 : Aside0 (p0.cur.txn = t) := Aside0.mk (by rw [hp0])
      dsimp only at HT
      rw [HT2.out] at HS1 HS2
      have wt : IntKind.i64.wrap (t + 1) = t + 1 := by rw [IntKind.wrap_i64]; have := HT.out; omega
      have wk : IntKind.i64.wrap ((k : Int) + 1) = (k : Int) + 1 := by rw [IntKind.wrap_i64]; omega
      unfold M.cells at HM
      dsimp only at HM
      clear s1 s2 hp0 HE
      go_wp2_with fail
      refine HM.out.mono ?_
      rintro e w3 ⟨rfl, hb⟩
      have HP3 := Aside0.mk (HH.out.pd.quiet hb)
      clear hb
      go_wp2_with fail
      refine (HS1.out _ HP3.out).mono ?_
      rintro e w4 ⟨rfl, hd⟩
      have HP4 := Aside0.mk hd
      clear hd
      go_wp2_with fail
      refine (HS2.out _ HP4.out).mono ?_
      rintro e w5 ⟨rfl, hd⟩
      have HP5 := Aside0.mk hd
      clear hd
      go_wp2_with fail
      go_roundg (N - (k + 1))
      case measure => omega
      case rel => exact ⟨k + 1, by push_cast; rfl, by omega, by omega, ⟨_, _, HP5.out⟩⟩
    · have a2 : decide ((k : Int) < (N : Int)) = false := decide_eq_false (by omega)
      obtain ⟨d0, s1, hc⟩ := HE.out _ _ _ _ _ _ HH.out (by omega)
      have HF := Aside0.mk s1
      have HC := Aside0.mk hc
      clear s1 hc HL HE
      obtain ⟨p0, hp0⟩ : ∃ p0, p0 = p := ⟨_, rfl⟩
      rw [← hp0] at HH HF HC
      have HP0 := Aside0.mk hp0
      obtain ⟨⟨t, r0, f0, g0, l0⟩, oth, both, shut⟩ := p
      have HT2 : Aside0 (p0.cur = ⟨t, r0, f0, g0, l0⟩) := Aside0.mk (by rw [hp0])
      dsimp only at HT
      rw [HT2.out] at HC
      dsimp only at HC
      have wt : IntKind.i64.wrap (t + 1) = t + 1 := by rw [IntKind.wrap_i64]; have := HT.out; omega
      unfold M.cells at HM
      dsimp only at HM
      clear hp0
      go_wp2_with fail
      refine HM.out.mono ?_
      rintro e w3 ⟨rfl, hb⟩
      have HP3 := Aside0.mk (HH.out.pd.quiet hb).pk
      have c0 := (blk_cell (blk_new w3 (.cells #[.int .i64 t, .int .i64 r0, .int .i64 f0, .int .i64 g0, .int .i64 l0] 32)) 0).trans rfl
      clear hb
      go_wp2_with fail
      have HP5 : Aside0 (PK (Two w3.heap.size (.cells #[.int .i64 t, .int .i64 r0, .int .i64 f0, .int .i64 g0, .int .i64 l0] 32) (w3.heap.size + 1) (.cells #[.int .i64 (t + 1), .int .i64 R, .int .i64 0, .int .i64 4, .int .i64 6] 32)) w ((w3.alloc (.cells #[.int .i64 t, .int .i64 r0, .int .i64 f0, .int .i64 g0, .int .i64 l0] 32)).alloc (.cells #[.int .i64 (t + 1), .int .i64 R, .int .i64 0, .int .i64 4, .int .i64 6] 32)) g d gp p0) := Aside0.mk (((HP3.out.add (below_alloc (Below.refl _ _) (.cells #[.int .i64 t, .int .i64 r0, .int .i64 f0, .int .i64 g0, .int .i64 l0] 32)) (Nat.le_refl _) (blk_new w3 (.cells #[.int .i64 t, .int .i64 r0, .int .i64 f0, .int .i64 g0, .int .i64 l0] 32))).add (below_alloc (Below.refl _ _) (.cells #[.int .i64 (t + 1), .int .i64 R, .int .i64 0, .int .i64 4, .int .i64 6] 32)) (Nat.le_refl _) (blk_new (w3.alloc (.cells #[.int .i64 t, .int .i64 r0, .int .i64 f0, .int .i64 g0, .int .i64 l0] 32)) (.cells #[.int .i64 (t + 1), .int .i64 R, .int .i64 0, .int .i64 4, .int .i64 6] 32))).less (by
        rintro b o (⟨rfl, rfl⟩ | ⟨rfl, rfl⟩)
        · exact .inl (.inr ⟨rfl, rfl⟩)
        · exact .inr ⟨by simp only [World.alloc, Array.size_push], rfl⟩))
      refine (HF.out _ _ HP5.out).mono ?_
      rintro e w6 ⟨rfl, hd⟩
      have HP6 := Aside0.mk hd
      clear hd HP5 HP3 HF c0 HM HH HP0 HT2
      generalize w3.heap.size + 1 = b2 at *
      generalize w3.heap.size = b1 at *
      have hx := HP6.out.kept (.inr ⟨rfl, rfl⟩)
      have c0 := (blk_cell hx 0).trans rfl
      have c1 := (blk_cell hx 1).trans rfl
      have c2 := (blk_cell hx 2).trans rfl
      have c3 := (blk_cell hx 3).trans rfl
      have c4 := (blk_cell hx 4).trans rfl
      clear hx
      have hne : ((t + 1 : Int) == t) = false := by rw [beq_eq_false_iff_ne]; omega
      rcases HC.out with ⟨d1, s1, hq⟩ | ⟨d1, p1, s1, hc⟩
      · have HS1 := Aside0.mk s1
        have HQ := Aside0.mk hq
        clear s1 hq HC
        go_wp2_with fail
        refine (HS1.out _ _ HP6.out).mono ?_
        rintro e w7 ⟨rfl, hd⟩
        have HP7 := Aside0.mk hd
        clear hd HS1 HP6 c0 c1 c2 c3 c4
        have HON := Aside0.mk HP7.out.on
        cases ho : d1.off
        · rw [ho] at HON
          go_wp2_with fail
          refine HON.out.mono ?_
          rintro e w8 ⟨rfl, rfl⟩
          clear HON
          go_wp2_with fail
          refine HP7.out.cut.mono ?_
          rintro e w9 ⟨rfl, hd⟩
          have HP9 := Aside0.mk hd
          clear hd
          go_wp2_with fail
          refine (HS.out _ _ _ _ _ _ HP9.out).mono ?_
          rintro e w10 ⟨rfl, hd⟩
          rw [show (d1.cut.1.start picks).1 = afresh d1 picks by unfold afresh; rw [if_pos ho]] at hd
          have HP10 := Aside0.mk hd
          obtain ⟨q2, hq1, hq2⟩ := HQ.out picks
          have HOp := Aside0.mk (HO.out _ _ _ hd.pd.dev _ (read0_of_opened hq1))
          rw [hq1] at HOp
          have HQ2 := Aside0.mk hq2
          generalize afresh d1 picks = dS at HP10 HOp
          generalize (d1.cut.1.start picks).2 = cS
          have HSt := Aside0.mk HP10.out.steps
          clear hd hq1 hq2 HQ ho
          go_wp2_with fail
          refine HSt.out.mono ?_
          rintro e w11 ⟨rfl, rfl⟩
          go_wp2_with fail
          refine HOp.out.mono ?_
          rintro e w12 ⟨gq, rfl, hb, hg, hqp⟩
          have HP12 := Aside0.mk (HP10.out.quiet hb)
          have HSt2 := Aside0.mk HP12.out.steps
          have HMq := Aside0.mk (fun W (hbW : Below w12.heap.size w12 W) => meta_calls (w := W) (gp := gq) (g := g) (p := q2) (sp := .pointer none) (blk_below hqp hbW))
          clear hb hg hqp HSt HOp
          go_wp2_with fail
          refine HSt2.out.mono ?_
          rintro e w13 ⟨rfl, rfl⟩
          clear HSt2
          rw [HQ2.out] at HMq
          unfold M.cells at HMq
          dsimp only at HMq
          go_wp2_with fail
          have hx1 := HP12.out.kept (.inl ⟨rfl, rfl⟩)
          have hx2 := HP12.out.kept (.inr ⟨rfl, rfl⟩)
          have HX1 := Aside0.mk hx1
          have HX2 := Aside0.mk hx2
          have ca0 := (blk_cell hx1 0).trans rfl
          have ca1 := (blk_cell hx1 1).trans rfl
          have ca2 := (blk_cell hx1 2).trans rfl
          have ca3 := (blk_cell hx1 3).trans rfl
          have ca4 := (blk_cell hx1 4).trans rfl
          have cb0 := (blk_cell hx2 0).trans rfl
          have cb1 := (blk_cell hx2 1).trans rfl
          have cb2 := (blk_cell hx2 2).trans rfl
          have cb3 := (blk_cell hx2 3).trans rfl
          have cb4 := (blk_cell hx2 4).trans rfl
          clear hx1 hx2
          refine wp_region_held_drew (S := (fun w' => w'.cell? ⟨b1, 0, none⟩ = some (.int .i64 t) ∧ w'.cell? ⟨b1, 1, none⟩ = some (.int .i64 r0) ∧ w'.cell? ⟨b1, 2, none⟩ = some (.int .i64 f0) ∧ w'.cell? ⟨b1, 3, none⟩ = some (.int .i64 g0) ∧ w'.cell? ⟨b1, 4, none⟩ = some (.int .i64 l0) ∧ w'.cell? ⟨b2, 0, none⟩ = some (.int .i64 (t + 1)) ∧ w'.cell? ⟨b2, 1, none⟩ = some (.int .i64 R) ∧ w'.cell? ⟨b2, 2, none⟩ = some (.int .i64 0) ∧ w'.cell? ⟨b2, 3, none⟩ = some (.int .i64 4) ∧ w'.cell? ⟨b2, 4, none⟩ = some (.int .i64 6))) (by kernel_rfl) ⟨ca0, ca1, ca2, ca3, ca4, cb0, cb1, cb2, cb3, cb4⟩ (fun hHeld => ?_)
          refine wpAnyH_take (i := 0) (oi := { dst := some 97, op := .move (.tmp 17), type := 28, pos := "law.go:234", after := #[], guard := none }) (v := ?_) rfl (by kernel_rfl) (by kernel_rfl) (by kernel_rfl) (fun _ _ _ h => h) (Or.inl ⟨by rfl, ?_⟩) (by assumption) ?_
          rotate_left
          · intro w' hSw; (try dsimp only at hSw); go_simp; (try with_reducible rfl)
          try simp only [Act.put, List.setIfInBounds_toArray, List.set_cons_zero, List.set_cons_succ]
          refine wpAnyH_take (i := 2) (oi := { dst := some 99, op := .load 32 (.tmp 12), type := 32, pos := "law.go:234", after := #[], guard := none }) (v := ?_) rfl (by kernel_rfl) (by kernel_rfl) (by kernel_rfl) (fun _ _ _ h => h) (Or.inl ⟨by rfl, ?_⟩) (by assumption) ?_
          rotate_left
          · intro w' hSw; (try dsimp only at hSw); go_simp; (try with_reducible rfl)
          try simp only [Act.put, List.setIfInBounds_toArray, List.set_cons_zero, List.set_cons_succ]
          refine wpAnyH_ready (rs := [1]) (by kernel_rfl) (by simp) ?_
          refine AllReadyH.cons (o := { dst := some 98, op := .call { callee := .value (.func 11), args := #[.tmp 97], argTypes := #[28] }, type := 32, pos := "law.go:234", after := #[{ on := 0, ground := .data }], guard := none }) rfl (fun K hK => ?_) AllReadyH.nil
          go_simp
          refine (HMq.out _ (Below.refl w12.heap.size w12).drew).mono ?_
          rintro e w14 ⟨rfl, hb⟩
          have HB14 := Aside0.mk (below_step (Below.refl w12.heap.size w12).drew hb)
          have hy1 := blk_below HX1.out HB14.out
          have hy2 := blk_below HX2.out HB14.out
          have cc0 := (blk_cell hy1 0).trans rfl
          have cc1 := (blk_cell hy1 1).trans rfl
          have cc2 := (blk_cell hy1 2).trans rfl
          have cc3 := (blk_cell hy1 3).trans rfl
          have cc4 := (blk_cell hy1 4).trans rfl
          have cd0 := (blk_cell hy2 0).trans rfl
          have cd1 := (blk_cell hy2 1).trans rfl
          have cd2 := (blk_cell hy2 2).trans rfl
          have cd3 := (blk_cell hy2 3).trans rfl
          have cd4 := (blk_cell hy2 4).trans rfl
          clear hy1 hy2 hb hHeld
          refine hK.out _ _ ⟨cc0, cc1, cc2, cc3, cc4, cd0, cd1, cd2, cd3, cd4⟩ (fun hHeld => ?_)
          clear hK K
          try simp only [Act.put, List.setIfInBounds_toArray, List.set_cons_zero, List.set_cons_succ]
          refine wpAnyH_take (i := 3) (oi := { dst := some 100, op := .binOp .eql 32 (.tmp 98) (.tmp 99) 32, type := 4, pos := "law.go:234", after := #[{ on := 1, ground := .data }, { on := 2, ground := .data }], guard := none }) (v := ?_) rfl (by kernel_rfl) (by kernel_rfl) (by kernel_rfl) (fun _ _ _ h => h) (Or.inl ⟨by rfl, ?_⟩) (by assumption) ?_
          rotate_left
          · intro w' hSw; (try dsimp only at hSw); go_simp; (try with_reducible rfl)
          try simp only [Act.put, List.setIfInBounds_toArray, List.set_cons_zero, List.set_cons_succ]
          refine wpAnyH_take (i := 4) (oi := { dst := some 101, op := .move (.tmp 100), type := 4, pos := "law.go:234", after := #[{ on := 3, ground := .data }, { on := 1, ground := .chain }], guard := none }) (v := ?_) rfl (by kernel_rfl) (by kernel_rfl) (by kernel_rfl) (fun _ _ _ h => h) (Or.inl ⟨by rfl, ?_⟩) (by assumption) ?_
          rotate_left
          · intro w' hSw; (try dsimp only at hSw); go_simp; (try with_reducible rfl)
          try simp only [Act.put, List.setIfInBounds_toArray, List.set_cons_zero, List.set_cons_succ]
          refine wpAnyH_take (i := 5) (oi := { dst := some 102, op := .move (.tmp 14), type := 24, pos := "law.go:234", after := #[{ on := 4, ground := .guard }], guard := some (4, false) }) (v := undef) rfl (by kernel_rfl) (by kernel_rfl) (by kernel_rfl) (fun _ _ _ h => h) (Or.inr ⟨by rfl, rfl⟩) (by assumption) ?_
          try simp only [Act.put, List.setIfInBounds_toArray, List.set_cons_zero, List.set_cons_succ]
          refine wpAnyH_take (i := 6) (oi := { dst := some 103, op := .binOp .eql 24 (.tmp 102) (.const (.int .i64 0)) 24, type := 4, pos := "law.go:234", after := #[{ on := 5, ground := .data }, { on := 4, ground := .guard }], guard := some (4, false) }) (v := undef) rfl (by kernel_rfl) (by kernel_rfl) (by kernel_rfl) (fun _ _ _ h => h) (Or.inr ⟨by rfl, rfl⟩) (by assumption) ?_
          try simp only [Act.put, List.setIfInBounds_toArray, List.set_cons_zero, List.set_cons_succ]
          refine wpAnyH_take (i := 7) (oi := { dst := some 104, op := .move (.tmp 103), type := 4, pos := "law.go:234", after := #[{ on := 6, ground := .data }, { on := 4, ground := .chain }, { on := 4, ground := .guard }], guard := some (4, false) }) (v := undef) rfl (by kernel_rfl) (by kernel_rfl) (by kernel_rfl) (fun _ _ _ h => h) (Or.inr ⟨by rfl, rfl⟩) (by assumption) ?_
          try simp only [Act.put, List.setIfInBounds_toArray, List.set_cons_zero, List.set_cons_succ]
          refine wpAnyH_take (i := 8) (oi := { dst := some 105, op := .move (.tmp 17), type := 28, pos := "law.go:234", after := #[{ on := 7, ground := .guard }], guard := some (7, true) }) (v := undef) rfl (by kernel_rfl) (by kernel_rfl) (by kernel_rfl) (fun _ _ _ h => h) (Or.inr ⟨by rfl, rfl⟩) (by assumption) ?_
          try simp only [Act.put, List.setIfInBounds_toArray, List.set_cons_zero, List.set_cons_succ]
          refine wpAnyH_take (i := 9) (oi := { dst := some 106, op := .call { callee := .value (.func 11), args := #[.tmp 105], argTypes := #[28] }, type := 32, pos := "law.go:234", after := #[{ on := 8, ground := .data }, { on := 7, ground := .chain }, { on := 7, ground := .guard }], guard := some (7, true) }) (v := undef) rfl (by kernel_rfl) (by kernel_rfl) (by kernel_rfl) (fun _ _ _ h => h) (Or.inr ⟨by rfl, rfl⟩) (by assumption) ?_
          try simp only [Act.put, List.setIfInBounds_toArray, List.set_cons_zero, List.set_cons_succ]
          refine wpAnyH_take (i := 10) (oi := { dst := some 107, op := .load 32 (.tmp 13), type := 32, pos := "law.go:234", after := #[{ on := 7, ground := .guard }], guard := some (7, true) }) (v := undef) rfl (by kernel_rfl) (by kernel_rfl) (by kernel_rfl) (fun _ _ _ h => h) (Or.inr ⟨by rfl, rfl⟩) (by assumption) ?_
          try simp only [Act.put, List.setIfInBounds_toArray, List.set_cons_zero, List.set_cons_succ]
          refine wpAnyH_take (i := 11) (oi := { dst := some 108, op := .binOp .eql 32 (.tmp 106) (.tmp 107) 32, type := 4, pos := "law.go:234", after := #[{ on := 9, ground := .data }, { on := 10, ground := .data }, { on := 7, ground := .guard }], guard := some (7, true) }) (v := undef) rfl (by kernel_rfl) (by kernel_rfl) (by kernel_rfl) (fun _ _ _ h => h) (Or.inr ⟨by rfl, rfl⟩) (by assumption) ?_
          try simp only [Act.put, List.setIfInBounds_toArray, List.set_cons_zero, List.set_cons_succ]
          refine wpAnyH_take (i := 12) (oi := { dst := some 109, op := .pick (.tmp 104) (.tmp 108) (.const (.bool false)), type := 4, pos := "law.go:234", after := #[{ on := 7, ground := .data }, { on := 11, ground := .data }, { on := 4, ground := .guard }], guard := some (4, false) }) (v := undef) rfl (by kernel_rfl) (by kernel_rfl) (by kernel_rfl) (fun _ _ _ h => h) (Or.inr ⟨by rfl, rfl⟩) (by assumption) ?_
          try simp only [Act.put, List.setIfInBounds_toArray, List.set_cons_zero, List.set_cons_succ]
          refine wpAnyH_take (i := 13) (oi := { dst := some 110, op := .pick (.tmp 101) (.const (.bool true)) (.tmp 109), type := 4, pos := "law.go:234", after := #[{ on := 4, ground := .data }, { on := 12, ground := .data }], guard := none }) (v := ?_) rfl (by kernel_rfl) (by kernel_rfl) (by kernel_rfl) (fun _ _ _ h => h) (Or.inl ⟨by rfl, ?_⟩) (by assumption) ?_
          rotate_left
          · intro w' hSw; (try dsimp only at hSw); go_simp; (try with_reducible rfl)
          try simp only [Act.put, List.setIfInBounds_toArray, List.set_cons_zero, List.set_cons_succ]
          refine wpAnyH_take (i := 14) (oi := { dst := some 8, op := .assign (.tmp 110), type := 4, pos := "law.go:234", after := #[{ on := 13, ground := .data }, { on := 9, ground := .chain }, { on := 0, ground := .phase }, { on := 1, ground := .phase }, { on := 2, ground := .phase }, { on := 3, ground := .phase }, { on := 4, ground := .phase }, { on := 5, ground := .phase }, { on := 6, ground := .phase }, { on := 7, ground := .phase }, { on := 8, ground := .phase }, { on := 9, ground := .phase }, { on := 10, ground := .phase }, { on := 11, ground := .phase }, { on := 12, ground := .phase }, { on := 13, ground := .phase }], guard := none }) (v := ?_) rfl (by kernel_rfl) (by kernel_rfl) (by kernel_rfl) (fun _ _ _ h => h) (Or.inl ⟨by rfl, ?_⟩) (by assumption) ?_
          rotate_left
          · intro w' hSw; (try dsimp only at hSw); go_simp; (try with_reducible rfl)
          try simp only [Act.put, List.setIfInBounds_toArray, List.set_cons_zero, List.set_cons_succ]
          refine wpAnyH_done (by kernel_rfl) ?_ _
          go_wp2_with fail
          go_ret
          exact ⟨rfl, (HP12.out.quiet HB14.out).below⟩
        · rw [ho] at HON
          go_wp2_with fail
          refine HON.out.mono ?_
          rintro e w8 ⟨rfl, rfl⟩
          clear HON
          go_wp2_with fail
          refine (HS.out _ _ _ _ _ _ HP7.out).mono ?_
          rintro e w10 ⟨rfl, hd⟩
          rw [show (d1.start picks).1 = afresh d1 picks by unfold afresh; rw [if_neg (by rw [ho]; exact Bool.noConfusion)]] at hd
          have HP10 := Aside0.mk hd
          obtain ⟨q2, hq1, hq2⟩ := HQ.out picks
          have HOp := Aside0.mk (HO.out _ _ _ hd.pd.dev _ (read0_of_opened hq1))
          rw [hq1] at HOp
          have HQ2 := Aside0.mk hq2
          generalize afresh d1 picks = dS at HP10 HOp
          generalize (d1.start picks).2 = cS
          have HSt := Aside0.mk HP10.out.steps
          clear hd hq1 hq2 HQ ho
          go_wp2_with fail
          refine HSt.out.mono ?_
          rintro e w11 ⟨rfl, rfl⟩
          go_wp2_with fail
          refine HOp.out.mono ?_
          rintro e w12 ⟨gq, rfl, hb, hg, hqp⟩
          have HP12 := Aside0.mk (HP10.out.quiet hb)
          have HSt2 := Aside0.mk HP12.out.steps
          have HMq := Aside0.mk (fun W (hbW : Below w12.heap.size w12 W) => meta_calls (w := W) (gp := gq) (g := g) (p := q2) (sp := .pointer none) (blk_below hqp hbW))
          clear hb hg hqp HSt HOp
          go_wp2_with fail
          refine HSt2.out.mono ?_
          rintro e w13 ⟨rfl, rfl⟩
          clear HSt2
          rw [HQ2.out] at HMq
          unfold M.cells at HMq
          dsimp only at HMq
          go_wp2_with fail
          have hx1 := HP12.out.kept (.inl ⟨rfl, rfl⟩)
          have hx2 := HP12.out.kept (.inr ⟨rfl, rfl⟩)
          have HX1 := Aside0.mk hx1
          have HX2 := Aside0.mk hx2
          have ca0 := (blk_cell hx1 0).trans rfl
          have ca1 := (blk_cell hx1 1).trans rfl
          have ca2 := (blk_cell hx1 2).trans rfl
          have ca3 := (blk_cell hx1 3).trans rfl
          have ca4 := (blk_cell hx1 4).trans rfl
          have cb0 := (blk_cell hx2 0).trans rfl
          have cb1 := (blk_cell hx2 1).trans rfl
          have cb2 := (blk_cell hx2 2).trans rfl
          have cb3 := (blk_cell hx2 3).trans rfl
          have cb4 := (blk_cell hx2 4).trans rfl
          clear hx1 hx2
          refine wp_region_held_drew (S := (fun w' => w'.cell? ⟨b1, 0, none⟩ = some (.int .i64 t) ∧ w'.cell? ⟨b1, 1, none⟩ = some (.int .i64 r0) ∧ w'.cell? ⟨b1, 2, none⟩ = some (.int .i64 f0) ∧ w'.cell? ⟨b1, 3, none⟩ = some (.int .i64 g0) ∧ w'.cell? ⟨b1, 4, none⟩ = some (.int .i64 l0) ∧ w'.cell? ⟨b2, 0, none⟩ = some (.int .i64 (t + 1)) ∧ w'.cell? ⟨b2, 1, none⟩ = some (.int .i64 R) ∧ w'.cell? ⟨b2, 2, none⟩ = some (.int .i64 0) ∧ w'.cell? ⟨b2, 3, none⟩ = some (.int .i64 4) ∧ w'.cell? ⟨b2, 4, none⟩ = some (.int .i64 6))) (by kernel_rfl) ⟨ca0, ca1, ca2, ca3, ca4, cb0, cb1, cb2, cb3, cb4⟩ (fun hHeld => ?_)
          refine wpAnyH_take (i := 0) (oi := { dst := some 97, op := .move (.tmp 17), type := 28, pos := "law.go:234", after := #[], guard := none }) (v := ?_) rfl (by kernel_rfl) (by kernel_rfl) (by kernel_rfl) (fun _ _ _ h => h) (Or.inl ⟨by rfl, ?_⟩) (by assumption) ?_
          rotate_left
          · intro w' hSw; (try dsimp only at hSw); go_simp; (try with_reducible rfl)
          try simp only [Act.put, List.setIfInBounds_toArray, List.set_cons_zero, List.set_cons_succ]
          refine wpAnyH_take (i := 2) (oi := { dst := some 99, op := .load 32 (.tmp 12), type := 32, pos := "law.go:234", after := #[], guard := none }) (v := ?_) rfl (by kernel_rfl) (by kernel_rfl) (by kernel_rfl) (fun _ _ _ h => h) (Or.inl ⟨by rfl, ?_⟩) (by assumption) ?_
          rotate_left
          · intro w' hSw; (try dsimp only at hSw); go_simp; (try with_reducible rfl)
          try simp only [Act.put, List.setIfInBounds_toArray, List.set_cons_zero, List.set_cons_succ]
          refine wpAnyH_ready (rs := [1]) (by kernel_rfl) (by simp) ?_
          refine AllReadyH.cons (o := { dst := some 98, op := .call { callee := .value (.func 11), args := #[.tmp 97], argTypes := #[28] }, type := 32, pos := "law.go:234", after := #[{ on := 0, ground := .data }], guard := none }) rfl (fun K hK => ?_) AllReadyH.nil
          go_simp
          refine (HMq.out _ (Below.refl w12.heap.size w12).drew).mono ?_
          rintro e w14 ⟨rfl, hb⟩
          have HB14 := Aside0.mk (below_step (Below.refl w12.heap.size w12).drew hb)
          have hy1 := blk_below HX1.out HB14.out
          have hy2 := blk_below HX2.out HB14.out
          have cc0 := (blk_cell hy1 0).trans rfl
          have cc1 := (blk_cell hy1 1).trans rfl
          have cc2 := (blk_cell hy1 2).trans rfl
          have cc3 := (blk_cell hy1 3).trans rfl
          have cc4 := (blk_cell hy1 4).trans rfl
          have cd0 := (blk_cell hy2 0).trans rfl
          have cd1 := (blk_cell hy2 1).trans rfl
          have cd2 := (blk_cell hy2 2).trans rfl
          have cd3 := (blk_cell hy2 3).trans rfl
          have cd4 := (blk_cell hy2 4).trans rfl
          clear hy1 hy2 hb hHeld
          refine hK.out _ _ ⟨cc0, cc1, cc2, cc3, cc4, cd0, cd1, cd2, cd3, cd4⟩ (fun hHeld => ?_)
          clear hK K
          try simp only [Act.put, List.setIfInBounds_toArray, List.set_cons_zero, List.set_cons_succ]
          refine wpAnyH_take (i := 3) (oi := { dst := some 100, op := .binOp .eql 32 (.tmp 98) (.tmp 99) 32, type := 4, pos := "law.go:234", after := #[{ on := 1, ground := .data }, { on := 2, ground := .data }], guard := none }) (v := ?_) rfl (by kernel_rfl) (by kernel_rfl) (by kernel_rfl) (fun _ _ _ h => h) (Or.inl ⟨by rfl, ?_⟩) (by assumption) ?_
          rotate_left
          · intro w' hSw; (try dsimp only at hSw); go_simp; (try with_reducible rfl)
          try simp only [Act.put, List.setIfInBounds_toArray, List.set_cons_zero, List.set_cons_succ]
          refine wpAnyH_take (i := 4) (oi := { dst := some 101, op := .move (.tmp 100), type := 4, pos := "law.go:234", after := #[{ on := 3, ground := .data }, { on := 1, ground := .chain }], guard := none }) (v := ?_) rfl (by kernel_rfl) (by kernel_rfl) (by kernel_rfl) (fun _ _ _ h => h) (Or.inl ⟨by rfl, ?_⟩) (by assumption) ?_
          rotate_left
          · intro w' hSw; (try dsimp only at hSw); go_simp; (try with_reducible rfl)
          try simp only [Act.put, List.setIfInBounds_toArray, List.set_cons_zero, List.set_cons_succ]
          refine wpAnyH_take (i := 5) (oi := { dst := some 102, op := .move (.tmp 14), type := 24, pos := "law.go:234", after := #[{ on := 4, ground := .guard }], guard := some (4, false) }) (v := undef) rfl (by kernel_rfl) (by kernel_rfl) (by kernel_rfl) (fun _ _ _ h => h) (Or.inr ⟨by rfl, rfl⟩) (by assumption) ?_
          try simp only [Act.put, List.setIfInBounds_toArray, List.set_cons_zero, List.set_cons_succ]
          refine wpAnyH_take (i := 6) (oi := { dst := some 103, op := .binOp .eql 24 (.tmp 102) (.const (.int .i64 0)) 24, type := 4, pos := "law.go:234", after := #[{ on := 5, ground := .data }, { on := 4, ground := .guard }], guard := some (4, false) }) (v := undef) rfl (by kernel_rfl) (by kernel_rfl) (by kernel_rfl) (fun _ _ _ h => h) (Or.inr ⟨by rfl, rfl⟩) (by assumption) ?_
          try simp only [Act.put, List.setIfInBounds_toArray, List.set_cons_zero, List.set_cons_succ]
          refine wpAnyH_take (i := 7) (oi := { dst := some 104, op := .move (.tmp 103), type := 4, pos := "law.go:234", after := #[{ on := 6, ground := .data }, { on := 4, ground := .chain }, { on := 4, ground := .guard }], guard := some (4, false) }) (v := undef) rfl (by kernel_rfl) (by kernel_rfl) (by kernel_rfl) (fun _ _ _ h => h) (Or.inr ⟨by rfl, rfl⟩) (by assumption) ?_
          try simp only [Act.put, List.setIfInBounds_toArray, List.set_cons_zero, List.set_cons_succ]
          refine wpAnyH_take (i := 8) (oi := { dst := some 105, op := .move (.tmp 17), type := 28, pos := "law.go:234", after := #[{ on := 7, ground := .guard }], guard := some (7, true) }) (v := undef) rfl (by kernel_rfl) (by kernel_rfl) (by kernel_rfl) (fun _ _ _ h => h) (Or.inr ⟨by rfl, rfl⟩) (by assumption) ?_
          try simp only [Act.put, List.setIfInBounds_toArray, List.set_cons_zero, List.set_cons_succ]
          refine wpAnyH_take (i := 9) (oi := { dst := some 106, op := .call { callee := .value (.func 11), args := #[.tmp 105], argTypes := #[28] }, type := 32, pos := "law.go:234", after := #[{ on := 8, ground := .data }, { on := 7, ground := .chain }, { on := 7, ground := .guard }], guard := some (7, true) }) (v := undef) rfl (by kernel_rfl) (by kernel_rfl) (by kernel_rfl) (fun _ _ _ h => h) (Or.inr ⟨by rfl, rfl⟩) (by assumption) ?_
          try simp only [Act.put, List.setIfInBounds_toArray, List.set_cons_zero, List.set_cons_succ]
          refine wpAnyH_take (i := 10) (oi := { dst := some 107, op := .load 32 (.tmp 13), type := 32, pos := "law.go:234", after := #[{ on := 7, ground := .guard }], guard := some (7, true) }) (v := undef) rfl (by kernel_rfl) (by kernel_rfl) (by kernel_rfl) (fun _ _ _ h => h) (Or.inr ⟨by rfl, rfl⟩) (by assumption) ?_
          try simp only [Act.put, List.setIfInBounds_toArray, List.set_cons_zero, List.set_cons_succ]
          refine wpAnyH_take (i := 11) (oi := { dst := some 108, op := .binOp .eql 32 (.tmp 106) (.tmp 107) 32, type := 4, pos := "law.go:234", after := #[{ on := 9, ground := .data }, { on := 10, ground := .data }, { on := 7, ground := .guard }], guard := some (7, true) }) (v := undef) rfl (by kernel_rfl) (by kernel_rfl) (by kernel_rfl) (fun _ _ _ h => h) (Or.inr ⟨by rfl, rfl⟩) (by assumption) ?_
          try simp only [Act.put, List.setIfInBounds_toArray, List.set_cons_zero, List.set_cons_succ]
          refine wpAnyH_take (i := 12) (oi := { dst := some 109, op := .pick (.tmp 104) (.tmp 108) (.const (.bool false)), type := 4, pos := "law.go:234", after := #[{ on := 7, ground := .data }, { on := 11, ground := .data }, { on := 4, ground := .guard }], guard := some (4, false) }) (v := undef) rfl (by kernel_rfl) (by kernel_rfl) (by kernel_rfl) (fun _ _ _ h => h) (Or.inr ⟨by rfl, rfl⟩) (by assumption) ?_
          try simp only [Act.put, List.setIfInBounds_toArray, List.set_cons_zero, List.set_cons_succ]
          refine wpAnyH_take (i := 13) (oi := { dst := some 110, op := .pick (.tmp 101) (.const (.bool true)) (.tmp 109), type := 4, pos := "law.go:234", after := #[{ on := 4, ground := .data }, { on := 12, ground := .data }], guard := none }) (v := ?_) rfl (by kernel_rfl) (by kernel_rfl) (by kernel_rfl) (fun _ _ _ h => h) (Or.inl ⟨by rfl, ?_⟩) (by assumption) ?_
          rotate_left
          · intro w' hSw; (try dsimp only at hSw); go_simp; (try with_reducible rfl)
          try simp only [Act.put, List.setIfInBounds_toArray, List.set_cons_zero, List.set_cons_succ]
          refine wpAnyH_take (i := 14) (oi := { dst := some 8, op := .assign (.tmp 110), type := 4, pos := "law.go:234", after := #[{ on := 13, ground := .data }, { on := 9, ground := .chain }, { on := 0, ground := .phase }, { on := 1, ground := .phase }, { on := 2, ground := .phase }, { on := 3, ground := .phase }, { on := 4, ground := .phase }, { on := 5, ground := .phase }, { on := 6, ground := .phase }, { on := 7, ground := .phase }, { on := 8, ground := .phase }, { on := 9, ground := .phase }, { on := 10, ground := .phase }, { on := 11, ground := .phase }, { on := 12, ground := .phase }, { on := 13, ground := .phase }], guard := none }) (v := ?_) rfl (by kernel_rfl) (by kernel_rfl) (by kernel_rfl) (fun _ _ _ h => h) (Or.inl ⟨by rfl, ?_⟩) (by assumption) ?_
          rotate_left
          · intro w' hSw; (try dsimp only at hSw); go_simp; (try with_reducible rfl)
          try simp only [Act.put, List.setIfInBounds_toArray, List.set_cons_zero, List.set_cons_succ]
          refine wpAnyH_done (by kernel_rfl) ?_ _
          go_wp2_with fail
          go_ret
          exact ⟨rfl, (HP12.out.quiet HB14.out).below⟩
      · have HS1 := Aside0.mk s1
        have HC2 := Aside0.mk hc
        clear s1 hc HC
        go_wp2_with fail
        refine (HS1.out _ _ HP6.out).mono ?_
        rintro e w7 ⟨rfl, hd⟩
        have HP7 := Aside0.mk hd
        clear hd HS1 HP6 c0 c1 c2 c3 c4
        rcases HC2.out with ⟨d2, p2, s2, hq⟩ | ⟨d2, p2, s2, hq⟩
        · have HS2 := Aside0.mk s2
          have HQ := Aside0.mk hq
          clear s2 hq HC2
          go_wp2_with fail
          refine (HS2.out _ _ HP7.out).mono ?_
          rintro e w77 ⟨rfl, hd⟩
          have HP8 := Aside0.mk hd
          clear hd HS2 HP7
          have HON := Aside0.mk HP8.out.on
          cases ho : d2.off
          · rw [ho] at HON
            go_wp2_with fail
            refine HON.out.mono ?_
            rintro e w8 ⟨rfl, rfl⟩
            clear HON
            go_wp2_with fail
            refine HP8.out.cut.mono ?_
            rintro e w9 ⟨rfl, hd⟩
            have HP9 := Aside0.mk hd
            clear hd
            go_wp2_with fail
            refine (HS.out _ _ _ _ _ _ HP9.out).mono ?_
            rintro e w10 ⟨rfl, hd⟩
            rw [show (d2.cut.1.start picks).1 = afresh d2 picks by unfold afresh; rw [if_pos ho]] at hd
            have HP10 := Aside0.mk hd
            obtain ⟨q2, hq1, hq2⟩ := HQ.out picks
            have HOp := Aside0.mk (HO.out _ _ _ hd.pd.dev _ (read0_of_opened hq1))
            rw [hq1] at HOp
            have HQ2 := Aside0.mk hq2
            generalize afresh d2 picks = dS at HP10 HOp
            generalize (d2.cut.1.start picks).2 = cS
            have HSt := Aside0.mk HP10.out.steps
            clear hd hq1 hq2 HQ ho
            go_wp2_with fail
            refine HSt.out.mono ?_
            rintro e w11 ⟨rfl, rfl⟩
            go_wp2_with fail
            refine HOp.out.mono ?_
            rintro e w12 ⟨gq, rfl, hb, hg, hqp⟩
            have HP12 := Aside0.mk (HP10.out.quiet hb)
            have HSt2 := Aside0.mk HP12.out.steps
            have HMq := Aside0.mk (fun W (hbW : Below w12.heap.size w12 W) => meta_calls (w := W) (gp := gq) (g := g) (p := q2) (sp := .pointer none) (blk_below hqp hbW))
            clear hb hg hqp HSt HOp
            go_wp2_with fail
            refine HSt2.out.mono ?_
            rintro e w13 ⟨rfl, rfl⟩
            clear HSt2
            rcases HQ2.out with hq3 | hq3
            · have HQ3 := Aside0.mk hq3
              clear hq3
              rw [HQ3.out] at HMq
              unfold M.cells at HMq
              dsimp only at HMq
              go_wp2_with fail
              have hx1 := HP12.out.kept (.inl ⟨rfl, rfl⟩)
              have hx2 := HP12.out.kept (.inr ⟨rfl, rfl⟩)
              have HX1 := Aside0.mk hx1
              have HX2 := Aside0.mk hx2
              have ca0 := (blk_cell hx1 0).trans rfl
              have ca1 := (blk_cell hx1 1).trans rfl
              have ca2 := (blk_cell hx1 2).trans rfl
              have ca3 := (blk_cell hx1 3).trans rfl
              have ca4 := (blk_cell hx1 4).trans rfl
              have cb0 := (blk_cell hx2 0).trans rfl
              have cb1 := (blk_cell hx2 1).trans rfl
              have cb2 := (blk_cell hx2 2).trans rfl
              have cb3 := (blk_cell hx2 3).trans rfl
              have cb4 := (blk_cell hx2 4).trans rfl
              clear hx1 hx2
              refine wp_region_held_drew (S := (fun w' => w'.cell? ⟨b1, 0, none⟩ = some (.int .i64 t) ∧ w'.cell? ⟨b1, 1, none⟩ = some (.int .i64 r0) ∧ w'.cell? ⟨b1, 2, none⟩ = some (.int .i64 f0) ∧ w'.cell? ⟨b1, 3, none⟩ = some (.int .i64 g0) ∧ w'.cell? ⟨b1, 4, none⟩ = some (.int .i64 l0) ∧ w'.cell? ⟨b2, 0, none⟩ = some (.int .i64 (t + 1)) ∧ w'.cell? ⟨b2, 1, none⟩ = some (.int .i64 R) ∧ w'.cell? ⟨b2, 2, none⟩ = some (.int .i64 0) ∧ w'.cell? ⟨b2, 3, none⟩ = some (.int .i64 4) ∧ w'.cell? ⟨b2, 4, none⟩ = some (.int .i64 6))) (by kernel_rfl) ⟨ca0, ca1, ca2, ca3, ca4, cb0, cb1, cb2, cb3, cb4⟩ (fun hHeld => ?_)
              refine wpAnyH_take (i := 0) (oi := { dst := some 97, op := .move (.tmp 17), type := 28, pos := "law.go:234", after := #[], guard := none }) (v := ?_) rfl (by kernel_rfl) (by kernel_rfl) (by kernel_rfl) (fun _ _ _ h => h) (Or.inl ⟨by rfl, ?_⟩) (by assumption) ?_
              rotate_left
              · intro w' hSw; (try dsimp only at hSw); go_simp; (try with_reducible rfl)
              try simp only [Act.put, List.setIfInBounds_toArray, List.set_cons_zero, List.set_cons_succ]
              refine wpAnyH_take (i := 2) (oi := { dst := some 99, op := .load 32 (.tmp 12), type := 32, pos := "law.go:234", after := #[], guard := none }) (v := ?_) rfl (by kernel_rfl) (by kernel_rfl) (by kernel_rfl) (fun _ _ _ h => h) (Or.inl ⟨by rfl, ?_⟩) (by assumption) ?_
              rotate_left
              · intro w' hSw; (try dsimp only at hSw); go_simp; (try with_reducible rfl)
              try simp only [Act.put, List.setIfInBounds_toArray, List.set_cons_zero, List.set_cons_succ]
              refine wpAnyH_ready (rs := [1]) (by kernel_rfl) (by simp) ?_
              refine AllReadyH.cons (o := { dst := some 98, op := .call { callee := .value (.func 11), args := #[.tmp 97], argTypes := #[28] }, type := 32, pos := "law.go:234", after := #[{ on := 0, ground := .data }], guard := none }) rfl (fun K hK => ?_) AllReadyH.nil
              go_simp
              refine (HMq.out _ (Below.refl w12.heap.size w12).drew).mono ?_
              rintro e w14 ⟨rfl, hb⟩
              have HB14 := Aside0.mk (below_step (Below.refl w12.heap.size w12).drew hb)
              have hy1 := blk_below HX1.out HB14.out
              have hy2 := blk_below HX2.out HB14.out
              have cc0 := (blk_cell hy1 0).trans rfl
              have cc1 := (blk_cell hy1 1).trans rfl
              have cc2 := (blk_cell hy1 2).trans rfl
              have cc3 := (blk_cell hy1 3).trans rfl
              have cc4 := (blk_cell hy1 4).trans rfl
              have cd0 := (blk_cell hy2 0).trans rfl
              have cd1 := (blk_cell hy2 1).trans rfl
              have cd2 := (blk_cell hy2 2).trans rfl
              have cd3 := (blk_cell hy2 3).trans rfl
              have cd4 := (blk_cell hy2 4).trans rfl
              clear hy1 hy2 hb hHeld
              refine hK.out _ _ ⟨cc0, cc1, cc2, cc3, cc4, cd0, cd1, cd2, cd3, cd4⟩ (fun hHeld => ?_)
              clear hK K
              try simp only [Act.put, List.setIfInBounds_toArray, List.set_cons_zero, List.set_cons_succ]
              refine wpAnyH_take (i := 3) (oi := { dst := some 100, op := .binOp .eql 32 (.tmp 98) (.tmp 99) 32, type := 4, pos := "law.go:234", after := #[{ on := 1, ground := .data }, { on := 2, ground := .data }], guard := none }) (v := ?_) rfl (by kernel_rfl) (by kernel_rfl) (by kernel_rfl) (fun _ _ _ h => h) (Or.inl ⟨by rfl, ?_⟩) (by assumption) ?_
              rotate_left
              · intro w' hSw; (try dsimp only at hSw); go_simp; (try with_reducible rfl)
              try simp only [Act.put, List.setIfInBounds_toArray, List.set_cons_zero, List.set_cons_succ]
              refine wpAnyH_take (i := 4) (oi := { dst := some 101, op := .move (.tmp 100), type := 4, pos := "law.go:234", after := #[{ on := 3, ground := .data }, { on := 1, ground := .chain }], guard := none }) (v := ?_) rfl (by kernel_rfl) (by kernel_rfl) (by kernel_rfl) (fun _ _ _ h => h) (Or.inl ⟨by rfl, ?_⟩) (by assumption) ?_
              rotate_left
              · intro w' hSw; (try dsimp only at hSw); go_simp; (try with_reducible rfl)
              try simp only [Act.put, List.setIfInBounds_toArray, List.set_cons_zero, List.set_cons_succ]
              refine wpAnyH_take (i := 5) (oi := { dst := some 102, op := .move (.tmp 14), type := 24, pos := "law.go:234", after := #[{ on := 4, ground := .guard }], guard := some (4, false) }) (v := undef) rfl (by kernel_rfl) (by kernel_rfl) (by kernel_rfl) (fun _ _ _ h => h) (Or.inr ⟨by rfl, rfl⟩) (by assumption) ?_
              try simp only [Act.put, List.setIfInBounds_toArray, List.set_cons_zero, List.set_cons_succ]
              refine wpAnyH_take (i := 6) (oi := { dst := some 103, op := .binOp .eql 24 (.tmp 102) (.const (.int .i64 0)) 24, type := 4, pos := "law.go:234", after := #[{ on := 5, ground := .data }, { on := 4, ground := .guard }], guard := some (4, false) }) (v := undef) rfl (by kernel_rfl) (by kernel_rfl) (by kernel_rfl) (fun _ _ _ h => h) (Or.inr ⟨by rfl, rfl⟩) (by assumption) ?_
              try simp only [Act.put, List.setIfInBounds_toArray, List.set_cons_zero, List.set_cons_succ]
              refine wpAnyH_take (i := 7) (oi := { dst := some 104, op := .move (.tmp 103), type := 4, pos := "law.go:234", after := #[{ on := 6, ground := .data }, { on := 4, ground := .chain }, { on := 4, ground := .guard }], guard := some (4, false) }) (v := undef) rfl (by kernel_rfl) (by kernel_rfl) (by kernel_rfl) (fun _ _ _ h => h) (Or.inr ⟨by rfl, rfl⟩) (by assumption) ?_
              try simp only [Act.put, List.setIfInBounds_toArray, List.set_cons_zero, List.set_cons_succ]
              refine wpAnyH_take (i := 8) (oi := { dst := some 105, op := .move (.tmp 17), type := 28, pos := "law.go:234", after := #[{ on := 7, ground := .guard }], guard := some (7, true) }) (v := undef) rfl (by kernel_rfl) (by kernel_rfl) (by kernel_rfl) (fun _ _ _ h => h) (Or.inr ⟨by rfl, rfl⟩) (by assumption) ?_
              try simp only [Act.put, List.setIfInBounds_toArray, List.set_cons_zero, List.set_cons_succ]
              refine wpAnyH_take (i := 9) (oi := { dst := some 106, op := .call { callee := .value (.func 11), args := #[.tmp 105], argTypes := #[28] }, type := 32, pos := "law.go:234", after := #[{ on := 8, ground := .data }, { on := 7, ground := .chain }, { on := 7, ground := .guard }], guard := some (7, true) }) (v := undef) rfl (by kernel_rfl) (by kernel_rfl) (by kernel_rfl) (fun _ _ _ h => h) (Or.inr ⟨by rfl, rfl⟩) (by assumption) ?_
              try simp only [Act.put, List.setIfInBounds_toArray, List.set_cons_zero, List.set_cons_succ]
              refine wpAnyH_take (i := 10) (oi := { dst := some 107, op := .load 32 (.tmp 13), type := 32, pos := "law.go:234", after := #[{ on := 7, ground := .guard }], guard := some (7, true) }) (v := undef) rfl (by kernel_rfl) (by kernel_rfl) (by kernel_rfl) (fun _ _ _ h => h) (Or.inr ⟨by rfl, rfl⟩) (by assumption) ?_
              try simp only [Act.put, List.setIfInBounds_toArray, List.set_cons_zero, List.set_cons_succ]
              refine wpAnyH_take (i := 11) (oi := { dst := some 108, op := .binOp .eql 32 (.tmp 106) (.tmp 107) 32, type := 4, pos := "law.go:234", after := #[{ on := 9, ground := .data }, { on := 10, ground := .data }, { on := 7, ground := .guard }], guard := some (7, true) }) (v := undef) rfl (by kernel_rfl) (by kernel_rfl) (by kernel_rfl) (fun _ _ _ h => h) (Or.inr ⟨by rfl, rfl⟩) (by assumption) ?_
              try simp only [Act.put, List.setIfInBounds_toArray, List.set_cons_zero, List.set_cons_succ]
              refine wpAnyH_take (i := 12) (oi := { dst := some 109, op := .pick (.tmp 104) (.tmp 108) (.const (.bool false)), type := 4, pos := "law.go:234", after := #[{ on := 7, ground := .data }, { on := 11, ground := .data }, { on := 4, ground := .guard }], guard := some (4, false) }) (v := undef) rfl (by kernel_rfl) (by kernel_rfl) (by kernel_rfl) (fun _ _ _ h => h) (Or.inr ⟨by rfl, rfl⟩) (by assumption) ?_
              try simp only [Act.put, List.setIfInBounds_toArray, List.set_cons_zero, List.set_cons_succ]
              refine wpAnyH_take (i := 13) (oi := { dst := some 110, op := .pick (.tmp 101) (.const (.bool true)) (.tmp 109), type := 4, pos := "law.go:234", after := #[{ on := 4, ground := .data }, { on := 12, ground := .data }], guard := none }) (v := ?_) rfl (by kernel_rfl) (by kernel_rfl) (by kernel_rfl) (fun _ _ _ h => h) (Or.inl ⟨by rfl, ?_⟩) (by assumption) ?_
              rotate_left
              · intro w' hSw; (try dsimp only at hSw); go_simp; (try with_reducible rfl)
              try simp only [Act.put, List.setIfInBounds_toArray, List.set_cons_zero, List.set_cons_succ]
              refine wpAnyH_take (i := 14) (oi := { dst := some 8, op := .assign (.tmp 110), type := 4, pos := "law.go:234", after := #[{ on := 13, ground := .data }, { on := 9, ground := .chain }, { on := 0, ground := .phase }, { on := 1, ground := .phase }, { on := 2, ground := .phase }, { on := 3, ground := .phase }, { on := 4, ground := .phase }, { on := 5, ground := .phase }, { on := 6, ground := .phase }, { on := 7, ground := .phase }, { on := 8, ground := .phase }, { on := 9, ground := .phase }, { on := 10, ground := .phase }, { on := 11, ground := .phase }, { on := 12, ground := .phase }, { on := 13, ground := .phase }], guard := none }) (v := ?_) rfl (by kernel_rfl) (by kernel_rfl) (by kernel_rfl) (fun _ _ _ h => h) (Or.inl ⟨by rfl, ?_⟩) (by assumption) ?_
              rotate_left
              · intro w' hSw; (try dsimp only at hSw); go_simp; (try with_reducible rfl)
              try simp only [Act.put, List.setIfInBounds_toArray, List.set_cons_zero, List.set_cons_succ]
              refine wpAnyH_done (by kernel_rfl) ?_ _
              go_wp2_with fail
              go_ret
              exact ⟨rfl, (HP12.out.quiet HB14.out).below⟩
            · have HQ3 := Aside0.mk hq3
              clear hq3
              rw [HQ3.out] at HMq
              unfold M.cells at HMq
              dsimp only at HMq
              go_wp2_with fail
              have hx1 := HP12.out.kept (.inl ⟨rfl, rfl⟩)
              have hx2 := HP12.out.kept (.inr ⟨rfl, rfl⟩)
              have HX1 := Aside0.mk hx1
              have HX2 := Aside0.mk hx2
              have ca0 := (blk_cell hx1 0).trans rfl
              have ca1 := (blk_cell hx1 1).trans rfl
              have ca2 := (blk_cell hx1 2).trans rfl
              have ca3 := (blk_cell hx1 3).trans rfl
              have ca4 := (blk_cell hx1 4).trans rfl
              have cb0 := (blk_cell hx2 0).trans rfl
              have cb1 := (blk_cell hx2 1).trans rfl
              have cb2 := (blk_cell hx2 2).trans rfl
              have cb3 := (blk_cell hx2 3).trans rfl
              have cb4 := (blk_cell hx2 4).trans rfl
              clear hx1 hx2
              first | go_region_held3 (fun w' => w'.cell? ⟨b1, 0, none⟩ = some (.int .i64 t) ∧ w'.cell? ⟨b1, 1, none⟩ = some (.int .i64 r0) ∧ w'.cell? ⟨b1, 2, none⟩ = some (.int .i64 f0) ∧ w'.cell? ⟨b1, 3, none⟩ = some (.int .i64 g0) ∧ w'.cell? ⟨b1, 4, none⟩ = some (.int .i64 l0) ∧ w'.cell? ⟨b2, 0, none⟩ = some (.int .i64 (t + 1)) ∧ w'.cell? ⟨b2, 1, none⟩ = some (.int .i64 R) ∧ w'.cell? ⟨b2, 2, none⟩ = some (.int .i64 0) ∧ w'.cell? ⟨b2, 3, none⟩ = some (.int .i64 4) ∧ w'.cell? ⟨b2, 4, none⟩ = some (.int .i64 6)) (first | exact ⟨ca0, ca1, ca2, ca3, ca4, cb0, cb1, cb2, cb3, cb4⟩ | exact ⟨cc0, cc1, cc2, cc3, cc4, cd0, cd1, cd2, cd3, cd4⟩ | exact ⟨ce0, ce1, ce2, ce3, ce4, cf0, cf1, cf2, cf3, cf4⟩) ((first
                | (go_at_call 11; (with_reducible refine (HMq.out _ HB14.out).mono ?_); rintro e w15 ⟨rfl, hb⟩; have HB15 := Aside0.mk (below_step HB14.out hb); have hz1 := blk_below HX1.out HB15.out; have hz2 := blk_below HX2.out HB15.out; have ce0 := (blk_cell hz1 0).trans rfl; have ce1 := (blk_cell hz1 1).trans rfl; have ce2 := (blk_cell hz1 2).trans rfl; have ce3 := (blk_cell hz1 3).trans rfl; have ce4 := (blk_cell hz1 4).trans rfl; have cf0 := (blk_cell hz2 0).trans rfl; have cf1 := (blk_cell hz2 1).trans rfl; have cf2 := (blk_cell hz2 2).trans rfl; have cf3 := (blk_cell hz2 3).trans rfl; have cf4 := (blk_cell hz2 4).trans rfl; clear hz1 hz2 hb)
                | (go_at_call 11; (with_reducible refine (HMq.out _ (Below.refl w12.heap.size w12).drew).mono ?_); rintro e w14 ⟨rfl, hb⟩; have HB14 := Aside0.mk (below_step (Below.refl w12.heap.size w12).drew hb); have hy1 := blk_below HX1.out HB14.out; have hy2 := blk_below HX2.out HB14.out; have cc0 := (blk_cell hy1 0).trans rfl; have cc1 := (blk_cell hy1 1).trans rfl; have cc2 := (blk_cell hy1 2).trans rfl; have cc3 := (blk_cell hy1 3).trans rfl; have cc4 := (blk_cell hy1 4).trans rfl; have cd0 := (blk_cell hy2 0).trans rfl; have cd1 := (blk_cell hy2 1).trans rfl; have cd2 := (blk_cell hy2 2).trans rfl; have cd3 := (blk_cell hy2 3).trans rfl; have cd4 := (blk_cell hy2 4).trans rfl; clear hy1 hy2 hb))) | fail
              all_goals (go_wp2_with fail; go_ret; exact ⟨rfl, (HP12.out.quiet HB15.out).below⟩)
          · rw [ho] at HON
            go_wp2_with fail
            refine HON.out.mono ?_
            rintro e w8 ⟨rfl, rfl⟩
            clear HON
            go_wp2_with fail
            refine (HS.out _ _ _ _ _ _ HP8.out).mono ?_
            rintro e w10 ⟨rfl, hd⟩
            rw [show (d2.start picks).1 = afresh d2 picks by unfold afresh; rw [if_neg (by rw [ho]; exact Bool.noConfusion)]] at hd
            have HP10 := Aside0.mk hd
            obtain ⟨q2, hq1, hq2⟩ := HQ.out picks
            have HOp := Aside0.mk (HO.out _ _ _ hd.pd.dev _ (read0_of_opened hq1))
            rw [hq1] at HOp
            have HQ2 := Aside0.mk hq2
            generalize afresh d2 picks = dS at HP10 HOp
            generalize (d2.start picks).2 = cS
            have HSt := Aside0.mk HP10.out.steps
            clear hd hq1 hq2 HQ ho
            go_wp2_with fail
            refine HSt.out.mono ?_
            rintro e w11 ⟨rfl, rfl⟩
            go_wp2_with fail
            refine HOp.out.mono ?_
            rintro e w12 ⟨gq, rfl, hb, hg, hqp⟩
            have HP12 := Aside0.mk (HP10.out.quiet hb)
            have HSt2 := Aside0.mk HP12.out.steps
            have HMq := Aside0.mk (fun W (hbW : Below w12.heap.size w12 W) => meta_calls (w := W) (gp := gq) (g := g) (p := q2) (sp := .pointer none) (blk_below hqp hbW))
            clear hb hg hqp HSt HOp
            go_wp2_with fail
            refine HSt2.out.mono ?_
            rintro e w13 ⟨rfl, rfl⟩
            clear HSt2
            rcases HQ2.out with hq3 | hq3
            · have HQ3 := Aside0.mk hq3
              clear hq3
              rw [HQ3.out] at HMq
              unfold M.cells at HMq
              dsimp only at HMq
              go_wp2_with fail
              have hx1 := HP12.out.kept (.inl ⟨rfl, rfl⟩)
              have hx2 := HP12.out.kept (.inr ⟨rfl, rfl⟩)
              have HX1 := Aside0.mk hx1
              have HX2 := Aside0.mk hx2
              have ca0 := (blk_cell hx1 0).trans rfl
              have ca1 := (blk_cell hx1 1).trans rfl
              have ca2 := (blk_cell hx1 2).trans rfl
              have ca3 := (blk_cell hx1 3).trans rfl
              have ca4 := (blk_cell hx1 4).trans rfl
              have cb0 := (blk_cell hx2 0).trans rfl
              have cb1 := (blk_cell hx2 1).trans rfl
              have cb2 := (blk_cell hx2 2).trans rfl
              have cb3 := (blk_cell hx2 3).trans rfl
              have cb4 := (blk_cell hx2 4).trans rfl
              clear hx1 hx2
              refine wp_region_held_drew (S := (fun w' => w'.cell? ⟨b1, 0, none⟩ = some (.int .i64 t) ∧ w'.cell? ⟨b1, 1, none⟩ = some (.int .i64 r0) ∧ w'.cell? ⟨b1, 2, none⟩ = some (.int .i64 f0) ∧ w'.cell? ⟨b1, 3, none⟩ = some (.int .i64 g0) ∧ w'.cell? ⟨b1, 4, none⟩ = some (.int .i64 l0) ∧ w'.cell? ⟨b2, 0, none⟩ = some (.int .i64 (t + 1)) ∧ w'.cell? ⟨b2, 1, none⟩ = some (.int .i64 R) ∧ w'.cell? ⟨b2, 2, none⟩ = some (.int .i64 0) ∧ w'.cell? ⟨b2, 3, none⟩ = some (.int .i64 4) ∧ w'.cell? ⟨b2, 4, none⟩ = some (.int .i64 6))) (by kernel_rfl) ⟨ca0, ca1, ca2, ca3, ca4, cb0, cb1, cb2, cb3, cb4⟩ (fun hHeld => ?_)
              refine wpAnyH_take (i := 0) (oi := { dst := some 97, op := .move (.tmp 17), type := 28, pos := "law.go:234", after := #[], guard := none }) (v := ?_) rfl (by kernel_rfl) (by kernel_rfl) (by kernel_rfl) (fun _ _ _ h => h) (Or.inl ⟨by rfl, ?_⟩) (by assumption) ?_
              rotate_left
              · intro w' hSw; (try dsimp only at hSw); go_simp; (try with_reducible rfl)
              try simp only [Act.put, List.setIfInBounds_toArray, List.set_cons_zero, List.set_cons_succ]
              refine wpAnyH_take (i := 2) (oi := { dst := some 99, op := .load 32 (.tmp 12), type := 32, pos := "law.go:234", after := #[], guard := none }) (v := ?_) rfl (by kernel_rfl) (by kernel_rfl) (by kernel_rfl) (fun _ _ _ h => h) (Or.inl ⟨by rfl, ?_⟩) (by assumption) ?_
              rotate_left
              · intro w' hSw; (try dsimp only at hSw); go_simp; (try with_reducible rfl)
              try simp only [Act.put, List.setIfInBounds_toArray, List.set_cons_zero, List.set_cons_succ]
              refine wpAnyH_ready (rs := [1]) (by kernel_rfl) (by simp) ?_
              refine AllReadyH.cons (o := { dst := some 98, op := .call { callee := .value (.func 11), args := #[.tmp 97], argTypes := #[28] }, type := 32, pos := "law.go:234", after := #[{ on := 0, ground := .data }], guard := none }) rfl (fun K hK => ?_) AllReadyH.nil
              go_simp
              refine (HMq.out _ (Below.refl w12.heap.size w12).drew).mono ?_
              rintro e w14 ⟨rfl, hb⟩
              have HB14 := Aside0.mk (below_step (Below.refl w12.heap.size w12).drew hb)
              have hy1 := blk_below HX1.out HB14.out
              have hy2 := blk_below HX2.out HB14.out
              have cc0 := (blk_cell hy1 0).trans rfl
              have cc1 := (blk_cell hy1 1).trans rfl
              have cc2 := (blk_cell hy1 2).trans rfl
              have cc3 := (blk_cell hy1 3).trans rfl
              have cc4 := (blk_cell hy1 4).trans rfl
              have cd0 := (blk_cell hy2 0).trans rfl
              have cd1 := (blk_cell hy2 1).trans rfl
              have cd2 := (blk_cell hy2 2).trans rfl
              have cd3 := (blk_cell hy2 3).trans rfl
              have cd4 := (blk_cell hy2 4).trans rfl
              clear hy1 hy2 hb hHeld
              refine hK.out _ _ ⟨cc0, cc1, cc2, cc3, cc4, cd0, cd1, cd2, cd3, cd4⟩ (fun hHeld => ?_)
              clear hK K
              try simp only [Act.put, List.setIfInBounds_toArray, List.set_cons_zero, List.set_cons_succ]
              refine wpAnyH_take (i := 3) (oi := { dst := some 100, op := .binOp .eql 32 (.tmp 98) (.tmp 99) 32, type := 4, pos := "law.go:234", after := #[{ on := 1, ground := .data }, { on := 2, ground := .data }], guard := none }) (v := ?_) rfl (by kernel_rfl) (by kernel_rfl) (by kernel_rfl) (fun _ _ _ h => h) (Or.inl ⟨by rfl, ?_⟩) (by assumption) ?_
              rotate_left
              · intro w' hSw; (try dsimp only at hSw); go_simp; (try with_reducible rfl)
              try simp only [Act.put, List.setIfInBounds_toArray, List.set_cons_zero, List.set_cons_succ]
              refine wpAnyH_take (i := 4) (oi := { dst := some 101, op := .move (.tmp 100), type := 4, pos := "law.go:234", after := #[{ on := 3, ground := .data }, { on := 1, ground := .chain }], guard := none }) (v := ?_) rfl (by kernel_rfl) (by kernel_rfl) (by kernel_rfl) (fun _ _ _ h => h) (Or.inl ⟨by rfl, ?_⟩) (by assumption) ?_
              rotate_left
              · intro w' hSw; (try dsimp only at hSw); go_simp; (try with_reducible rfl)
              try simp only [Act.put, List.setIfInBounds_toArray, List.set_cons_zero, List.set_cons_succ]
              refine wpAnyH_take (i := 5) (oi := { dst := some 102, op := .move (.tmp 14), type := 24, pos := "law.go:234", after := #[{ on := 4, ground := .guard }], guard := some (4, false) }) (v := undef) rfl (by kernel_rfl) (by kernel_rfl) (by kernel_rfl) (fun _ _ _ h => h) (Or.inr ⟨by rfl, rfl⟩) (by assumption) ?_
              try simp only [Act.put, List.setIfInBounds_toArray, List.set_cons_zero, List.set_cons_succ]
              refine wpAnyH_take (i := 6) (oi := { dst := some 103, op := .binOp .eql 24 (.tmp 102) (.const (.int .i64 0)) 24, type := 4, pos := "law.go:234", after := #[{ on := 5, ground := .data }, { on := 4, ground := .guard }], guard := some (4, false) }) (v := undef) rfl (by kernel_rfl) (by kernel_rfl) (by kernel_rfl) (fun _ _ _ h => h) (Or.inr ⟨by rfl, rfl⟩) (by assumption) ?_
              try simp only [Act.put, List.setIfInBounds_toArray, List.set_cons_zero, List.set_cons_succ]
              refine wpAnyH_take (i := 7) (oi := { dst := some 104, op := .move (.tmp 103), type := 4, pos := "law.go:234", after := #[{ on := 6, ground := .data }, { on := 4, ground := .chain }, { on := 4, ground := .guard }], guard := some (4, false) }) (v := undef) rfl (by kernel_rfl) (by kernel_rfl) (by kernel_rfl) (fun _ _ _ h => h) (Or.inr ⟨by rfl, rfl⟩) (by assumption) ?_
              try simp only [Act.put, List.setIfInBounds_toArray, List.set_cons_zero, List.set_cons_succ]
              refine wpAnyH_take (i := 8) (oi := { dst := some 105, op := .move (.tmp 17), type := 28, pos := "law.go:234", after := #[{ on := 7, ground := .guard }], guard := some (7, true) }) (v := undef) rfl (by kernel_rfl) (by kernel_rfl) (by kernel_rfl) (fun _ _ _ h => h) (Or.inr ⟨by rfl, rfl⟩) (by assumption) ?_
              try simp only [Act.put, List.setIfInBounds_toArray, List.set_cons_zero, List.set_cons_succ]
              refine wpAnyH_take (i := 9) (oi := { dst := some 106, op := .call { callee := .value (.func 11), args := #[.tmp 105], argTypes := #[28] }, type := 32, pos := "law.go:234", after := #[{ on := 8, ground := .data }, { on := 7, ground := .chain }, { on := 7, ground := .guard }], guard := some (7, true) }) (v := undef) rfl (by kernel_rfl) (by kernel_rfl) (by kernel_rfl) (fun _ _ _ h => h) (Or.inr ⟨by rfl, rfl⟩) (by assumption) ?_
              try simp only [Act.put, List.setIfInBounds_toArray, List.set_cons_zero, List.set_cons_succ]
              refine wpAnyH_take (i := 10) (oi := { dst := some 107, op := .load 32 (.tmp 13), type := 32, pos := "law.go:234", after := #[{ on := 7, ground := .guard }], guard := some (7, true) }) (v := undef) rfl (by kernel_rfl) (by kernel_rfl) (by kernel_rfl) (fun _ _ _ h => h) (Or.inr ⟨by rfl, rfl⟩) (by assumption) ?_
              try simp only [Act.put, List.setIfInBounds_toArray, List.set_cons_zero, List.set_cons_succ]
              refine wpAnyH_take (i := 11) (oi := { dst := some 108, op := .binOp .eql 32 (.tmp 106) (.tmp 107) 32, type := 4, pos := "law.go:234", after := #[{ on := 9, ground := .data }, { on := 10, ground := .data }, { on := 7, ground := .guard }], guard := some (7, true) }) (v := undef) rfl (by kernel_rfl) (by kernel_rfl) (by kernel_rfl) (fun _ _ _ h => h) (Or.inr ⟨by rfl, rfl⟩) (by assumption) ?_
              try simp only [Act.put, List.setIfInBounds_toArray, List.set_cons_zero, List.set_cons_succ]
              refine wpAnyH_take (i := 12) (oi := { dst := some 109, op := .pick (.tmp 104) (.tmp 108) (.const (.bool false)), type := 4, pos := "law.go:234", after := #[{ on := 7, ground := .data }, { on := 11, ground := .data }, { on := 4, ground := .guard }], guard := some (4, false) }) (v := undef) rfl (by kernel_rfl) (by kernel_rfl) (by kernel_rfl) (fun _ _ _ h => h) (Or.inr ⟨by rfl, rfl⟩) (by assumption) ?_
              try simp only [Act.put, List.setIfInBounds_toArray, List.set_cons_zero, List.set_cons_succ]
              refine wpAnyH_take (i := 13) (oi := { dst := some 110, op := .pick (.tmp 101) (.const (.bool true)) (.tmp 109), type := 4, pos := "law.go:234", after := #[{ on := 4, ground := .data }, { on := 12, ground := .data }], guard := none }) (v := ?_) rfl (by kernel_rfl) (by kernel_rfl) (by kernel_rfl) (fun _ _ _ h => h) (Or.inl ⟨by rfl, ?_⟩) (by assumption) ?_
              rotate_left
              · intro w' hSw; (try dsimp only at hSw); go_simp; (try with_reducible rfl)
              try simp only [Act.put, List.setIfInBounds_toArray, List.set_cons_zero, List.set_cons_succ]
              refine wpAnyH_take (i := 14) (oi := { dst := some 8, op := .assign (.tmp 110), type := 4, pos := "law.go:234", after := #[{ on := 13, ground := .data }, { on := 9, ground := .chain }, { on := 0, ground := .phase }, { on := 1, ground := .phase }, { on := 2, ground := .phase }, { on := 3, ground := .phase }, { on := 4, ground := .phase }, { on := 5, ground := .phase }, { on := 6, ground := .phase }, { on := 7, ground := .phase }, { on := 8, ground := .phase }, { on := 9, ground := .phase }, { on := 10, ground := .phase }, { on := 11, ground := .phase }, { on := 12, ground := .phase }, { on := 13, ground := .phase }], guard := none }) (v := ?_) rfl (by kernel_rfl) (by kernel_rfl) (by kernel_rfl) (fun _ _ _ h => h) (Or.inl ⟨by rfl, ?_⟩) (by assumption) ?_
              rotate_left
              · intro w' hSw; (try dsimp only at hSw); go_simp; (try with_reducible rfl)
              try simp only [Act.put, List.setIfInBounds_toArray, List.set_cons_zero, List.set_cons_succ]
              refine wpAnyH_done (by kernel_rfl) ?_ _
              go_wp2_with fail
              go_ret
              exact ⟨rfl, (HP12.out.quiet HB14.out).below⟩
            · have HQ3 := Aside0.mk hq3
              clear hq3
              rw [HQ3.out] at HMq
              unfold M.cells at HMq
              dsimp only at HMq
              go_wp2_with fail
              have hx1 := HP12.out.kept (.inl ⟨rfl, rfl⟩)
              have hx2 := HP12.out.kept (.inr ⟨rfl, rfl⟩)
              have HX1 := Aside0.mk hx1
              have HX2 := Aside0.mk hx2
              have ca0 := (blk_cell hx1 0).trans rfl
              have ca1 := (blk_cell hx1 1).trans rfl
              have ca2 := (blk_cell hx1 2).trans rfl
              have ca3 := (blk_cell hx1 3).trans rfl
              have ca4 := (blk_cell hx1 4).trans rfl
              have cb0 := (blk_cell hx2 0).trans rfl
              have cb1 := (blk_cell hx2 1).trans rfl
              have cb2 := (blk_cell hx2 2).trans rfl
              have cb3 := (blk_cell hx2 3).trans rfl
              have cb4 := (blk_cell hx2 4).trans rfl
              clear hx1 hx2
              first | go_region_held3 (fun w' => w'.cell? ⟨b1, 0, none⟩ = some (.int .i64 t) ∧ w'.cell? ⟨b1, 1, none⟩ = some (.int .i64 r0) ∧ w'.cell? ⟨b1, 2, none⟩ = some (.int .i64 f0) ∧ w'.cell? ⟨b1, 3, none⟩ = some (.int .i64 g0) ∧ w'.cell? ⟨b1, 4, none⟩ = some (.int .i64 l0) ∧ w'.cell? ⟨b2, 0, none⟩ = some (.int .i64 (t + 1)) ∧ w'.cell? ⟨b2, 1, none⟩ = some (.int .i64 R) ∧ w'.cell? ⟨b2, 2, none⟩ = some (.int .i64 0) ∧ w'.cell? ⟨b2, 3, none⟩ = some (.int .i64 4) ∧ w'.cell? ⟨b2, 4, none⟩ = some (.int .i64 6)) (first | exact ⟨ca0, ca1, ca2, ca3, ca4, cb0, cb1, cb2, cb3, cb4⟩ | exact ⟨cc0, cc1, cc2, cc3, cc4, cd0, cd1, cd2, cd3, cd4⟩ | exact ⟨ce0, ce1, ce2, ce3, ce4, cf0, cf1, cf2, cf3, cf4⟩) ((first
                | (go_at_call 11; (with_reducible refine (HMq.out _ HB14.out).mono ?_); rintro e w15 ⟨rfl, hb⟩; have HB15 := Aside0.mk (below_step HB14.out hb); have hz1 := blk_below HX1.out HB15.out; have hz2 := blk_below HX2.out HB15.out; have ce0 := (blk_cell hz1 0).trans rfl; have ce1 := (blk_cell hz1 1).trans rfl; have ce2 := (blk_cell hz1 2).trans rfl; have ce3 := (blk_cell hz1 3).trans rfl; have ce4 := (blk_cell hz1 4).trans rfl; have cf0 := (blk_cell hz2 0).trans rfl; have cf1 := (blk_cell hz2 1).trans rfl; have cf2 := (blk_cell hz2 2).trans rfl; have cf3 := (blk_cell hz2 3).trans rfl; have cf4 := (blk_cell hz2 4).trans rfl; clear hz1 hz2 hb)
                | (go_at_call 11; (with_reducible refine (HMq.out _ (Below.refl w12.heap.size w12).drew).mono ?_); rintro e w14 ⟨rfl, hb⟩; have HB14 := Aside0.mk (below_step (Below.refl w12.heap.size w12).drew hb); have hy1 := blk_below HX1.out HB14.out; have hy2 := blk_below HX2.out HB14.out; have cc0 := (blk_cell hy1 0).trans rfl; have cc1 := (blk_cell hy1 1).trans rfl; have cc2 := (blk_cell hy1 2).trans rfl; have cc3 := (blk_cell hy1 3).trans rfl; have cc4 := (blk_cell hy1 4).trans rfl; have cd0 := (blk_cell hy2 0).trans rfl; have cd1 := (blk_cell hy2 1).trans rfl; have cd2 := (blk_cell hy2 2).trans rfl; have cd3 := (blk_cell hy2 3).trans rfl; have cd4 := (blk_cell hy2 4).trans rfl; clear hy1 hy2 hb))) | fail
              all_goals (go_wp2_with fail; go_ret; exact ⟨rfl, (HP12.out.quiet HB15.out).below⟩)
        · have HS2 := Aside0.mk s2
          have HQ := Aside0.mk hq
          clear s2 hq HC2
          go_wp2_with fail
          refine (HS2.out _ _ HP7.out).mono ?_
          rintro e w77 ⟨rfl, hd⟩
          have HP8 := Aside0.mk hd
          clear hd HS2 HP7
          have HON := Aside0.mk HP8.out.on
          cases ho : d2.off
          · rw [ho] at HON
            go_wp2_with fail
            refine HON.out.mono ?_
            rintro e w8 ⟨rfl, rfl⟩
            clear HON
            go_wp2_with fail
            refine HP8.out.cut.mono ?_
            rintro e w9 ⟨rfl, hd⟩
            have HP9 := Aside0.mk hd
            clear hd
            go_wp2_with fail
            refine (HS.out _ _ _ _ _ _ HP9.out).mono ?_
            rintro e w10 ⟨rfl, hd⟩
            rw [show (d2.cut.1.start picks).1 = afresh d2 picks by unfold afresh; rw [if_pos ho]] at hd
            have HP10 := Aside0.mk hd
            obtain ⟨q2, hq1, hq2⟩ := HQ.out picks
            have HOp := Aside0.mk (HO.out _ _ _ hd.pd.dev _ (read0_of_opened hq1))
            rw [hq1] at HOp
            have HQ2 := Aside0.mk hq2
            generalize afresh d2 picks = dS at HP10 HOp
            generalize (d2.cut.1.start picks).2 = cS
            have HSt := Aside0.mk HP10.out.steps
            clear hd hq1 hq2 HQ ho
            go_wp2_with fail
            refine HSt.out.mono ?_
            rintro e w11 ⟨rfl, rfl⟩
            go_wp2_with fail
            refine HOp.out.mono ?_
            rintro e w12 ⟨gq, rfl, hb, hg, hqp⟩
            have HP12 := Aside0.mk (HP10.out.quiet hb)
            have HSt2 := Aside0.mk HP12.out.steps
            have HMq := Aside0.mk (fun W (hbW : Below w12.heap.size w12 W) => meta_calls (w := W) (gp := gq) (g := g) (p := q2) (sp := .pointer none) (blk_below hqp hbW))
            clear hb hg hqp HSt HOp
            go_wp2_with fail
            refine HSt2.out.mono ?_
            rintro e w13 ⟨rfl, rfl⟩
            clear HSt2
            rw [HQ2.out] at HMq
            unfold M.cells at HMq
            dsimp only at HMq
            go_wp2_with fail
            have hx2 := HP12.out.kept (.inr ⟨rfl, rfl⟩)
            have HX2 := Aside0.mk hx2
            have cb0 := (blk_cell hx2 0).trans rfl
            have cb1 := (blk_cell hx2 1).trans rfl
            have cb2 := (blk_cell hx2 2).trans rfl
            have cb3 := (blk_cell hx2 3).trans rfl
            have cb4 := (blk_cell hx2 4).trans rfl
            clear hx2
            go_region_held3 (fun w' => w'.cell? ⟨b2, 0, none⟩ = some (.int .i64 (t + 1)) ∧ w'.cell? ⟨b2, 1, none⟩ = some (.int .i64 R) ∧ w'.cell? ⟨b2, 2, none⟩ = some (.int .i64 0) ∧ w'.cell? ⟨b2, 3, none⟩ = some (.int .i64 4) ∧ w'.cell? ⟨b2, 4, none⟩ = some (.int .i64 6)) (first | exact ⟨cb0, cb1, cb2, cb3, cb4⟩ | exact ⟨cd0, cd1, cd2, cd3, cd4⟩) ((first
              | (go_at_call 11; (with_reducible refine (HMq.out _ (Below.refl w12.heap.size w12).drew).mono ?_); rintro e w14 ⟨rfl, hb⟩; have HB14 := Aside0.mk (below_step (Below.refl w12.heap.size w12).drew hb); have hy2 := blk_below HX2.out HB14.out; have cd0 := (blk_cell hy2 0).trans rfl; have cd1 := (blk_cell hy2 1).trans rfl; have cd2 := (blk_cell hy2 2).trans rfl; have cd3 := (blk_cell hy2 3).trans rfl; have cd4 := (blk_cell hy2 4).trans rfl; clear hy2 hb)))
            go_wp2_with fail
            go_ret
            exact ⟨rfl, (HP12.out.quiet HB14.out).below⟩
          · rw [ho] at HON
            go_wp2_with fail
            refine HON.out.mono ?_
            rintro e w8 ⟨rfl, rfl⟩
            clear HON
            go_wp2_with fail
            refine (HS.out _ _ _ _ _ _ HP8.out).mono ?_
            rintro e w10 ⟨rfl, hd⟩
            rw [show (d2.start picks).1 = afresh d2 picks by unfold afresh; rw [if_neg (by rw [ho]; exact Bool.noConfusion)]] at hd
            have HP10 := Aside0.mk hd
            obtain ⟨q2, hq1, hq2⟩ := HQ.out picks
            have HOp := Aside0.mk (HO.out _ _ _ hd.pd.dev _ (read0_of_opened hq1))
            rw [hq1] at HOp
            have HQ2 := Aside0.mk hq2
            generalize afresh d2 picks = dS at HP10 HOp
            generalize (d2.start picks).2 = cS
            have HSt := Aside0.mk HP10.out.steps
            clear hd hq1 hq2 HQ ho
            go_wp2_with fail
            refine HSt.out.mono ?_
            rintro e w11 ⟨rfl, rfl⟩
            go_wp2_with fail
            refine HOp.out.mono ?_
            rintro e w12 ⟨gq, rfl, hb, hg, hqp⟩
            have HP12 := Aside0.mk (HP10.out.quiet hb)
            have HSt2 := Aside0.mk HP12.out.steps
            have HMq := Aside0.mk (fun W (hbW : Below w12.heap.size w12 W) => meta_calls (w := W) (gp := gq) (g := g) (p := q2) (sp := .pointer none) (blk_below hqp hbW))
            clear hb hg hqp HSt HOp
            go_wp2_with fail
            refine HSt2.out.mono ?_
            rintro e w13 ⟨rfl, rfl⟩
            clear HSt2
            rw [HQ2.out] at HMq
            unfold M.cells at HMq
            dsimp only at HMq
            go_wp2_with fail
            have hx2 := HP12.out.kept (.inr ⟨rfl, rfl⟩)
            have HX2 := Aside0.mk hx2
            have cb0 := (blk_cell hx2 0).trans rfl
            have cb1 := (blk_cell hx2 1).trans rfl
            have cb2 := (blk_cell hx2 2).trans rfl
            have cb3 := (blk_cell hx2 3).trans rfl
            have cb4 := (blk_cell hx2 4).trans rfl
            clear hx2
            go_region_held3 (fun w' => w'.cell? ⟨b2, 0, none⟩ = some (.int .i64 (t + 1)) ∧ w'.cell? ⟨b2, 1, none⟩ = some (.int .i64 R) ∧ w'.cell? ⟨b2, 2, none⟩ = some (.int .i64 0) ∧ w'.cell? ⟨b2, 3, none⟩ = some (.int .i64 4) ∧ w'.cell? ⟨b2, 4, none⟩ = some (.int .i64 6)) (first | exact ⟨cb0, cb1, cb2, cb3, cb4⟩ | exact ⟨cd0, cd1, cd2, cd3, cd4⟩) ((first
              | (go_at_call 11; (with_reducible refine (HMq.out _ (Below.refl w12.heap.size w12).drew).mono ?_); rintro e w14 ⟨rfl, hb⟩; have HB14 := Aside0.mk (below_step (Below.refl w12.heap.size w12).drew hb); have hy2 := blk_below HX2.out HB14.out; have cd0 := (blk_cell hy2 0).trans rfl; have cd1 := (blk_cell hy2 1).trans rfl; have cd2 := (blk_cell hy2 2).trans rfl; have cd3 := (blk_cell hy2 3).trans rfl; have cd4 := (blk_cell hy2 4).trans rfl; clear hy2 hb)))
            go_wp2_with fail
            go_ret
            exact ⟨rfl, (HP12.out.quiet HB14.out).below⟩
theorem commits_row (n r : Int) {f : Int} (hf : (Lit.int .i64 f).wf = true) {q : Option Addr} {m pc : Nat} {l : List Int} {W : World} (hp : l.length = m ∧ l.length ≤ 9223372036854775807 ∧ IntsAt W q l) (hr : RowAt W) :
    Calls Tryd.prog 6 #[.int .i64 n, .int .i64 r, .int .i64 f, .slice q m pc] W (Tell (.bool true) W) := by
  obtain ⟨rfl, h1, h2⟩ := hp
  unfold Lit.wf at hf
  rw [Bool.and_eq_true, decide_eq_true_eq, decide_eq_true_eq] at hf
  exact commits_calls n r f hf.2 q l pc W h2 h1 hr
end Go.Proofs.YtjbkkmgkckopdaaDoor.Pg
