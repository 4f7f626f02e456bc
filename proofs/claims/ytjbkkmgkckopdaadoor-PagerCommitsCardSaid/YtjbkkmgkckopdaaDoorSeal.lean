/- A meta is sealed; it is done. -/
import Derived.Test.YtjbkkmgkckopdaaDoorFormats
import Derived.Deep.RegionHeld3
import Derived.BigRegion
namespace Go.Proofs.YtjbkkmgkckopdaaDoor.Pg
open Go.RowKit Go.Proofs.YtjbkkmgkckopdaaDoorW.PrintWords Go.Proofs.YtjbkkmgkckopdaaDoorW.PrintLast Go.Proofs.YtjbkkmgkckopdaaDoorW.PrintMore Go.Proofs.YtjbkkmgkckopdaaDoor.Num Go.Proofs.YtjbkkmgkckopdaaDoor.Mem Go.Proofs.YtjbkkmgkckopdaaDoor.Dv
set_option linter.unusedVariables false
set_option linter.unusedSimpArgs false
section
variable {w0 w w' : World} {g gp : Nat} {d d' : D} {p : G}
/-- A pager beside its device, in new memory; blocks beside them are kept. -/
structure PK (K : Nat → Obj → Prop) (w0 w : World) (g : Nat) (d : D) (gp : Nat) (p : G) : Prop where
  at_ : ∃ ok y sp, DAt w ok g d y ∧ (∀ k, ok k → w0.heap.size ≤ k ∧ k < w.heap.size) ∧ ¬ ok gp ∧ w0.heap.size ≤ gp ∧ PB w gp g p sp ∧ Shut w0 w ok gp p.shut sp ∧ (∀ b o, K b o → ¬ ok b ∧ b ≠ gp ∧ w.heap[b]? = some o)
  below : Below w0.heap.size w0 w
theorem PD.pk (h : PD w0 w g d gp p) : PK (fun _ _ => False) w0 w g d gp p := by
  obtain ⟨ok, y, sp, h1, h2, h3, h4, h5, h6⟩ := h.at_
  exact ⟨⟨ok, y, sp, h1, h2, h3, h4, h5, h6, fun _ _ h => h.elim⟩, h.below⟩
section
variable {K K' : Nat → Obj → Prop}
theorem PK.pd (h : PK K w0 w g d gp p) : PD w0 w g d gp p := by
  obtain ⟨ok, y, sp, h1, h2, h3, h4, h5, h6, _⟩ := h.at_
  exact ⟨⟨ok, y, sp, h1, h2, h3, h4, h5, h6⟩, h.below⟩
theorem PK.kept (h : PK K w0 w g d gp p) {b : Nat} {o : Obj} (hk : K b o) : w.heap[b]? = some o := by
  obtain ⟨ok, y, sp, h1, h2, h3, h4, h5, h6, h7⟩ := h.at_
  exact (h7 b o hk).2.2
theorem PK.less (h : PK K w0 w g d gp p) (hk : ∀ b o, K' b o → K b o) : PK K' w0 w g d gp p := by
  obtain ⟨ok, y, sp, h1, h2, h3, h4, h5, h6, h7⟩ := h.at_
  exact ⟨⟨ok, y, sp, h1, h2, h3, h4, h5, h6, fun b o h => h7 b o (hk b o h)⟩, h.below⟩
theorem PK.quiet (h : PK K w0 w g d gp p) (hb : Below w.heap.size w w') : PK K w0 w' g d gp p := by
  obtain ⟨ok, y, sp, h1, h2, h3, h4, h5, h6, h7⟩ := h.at_
  have l1 := hb.size
  refine ⟨⟨ok, y, sp, h1.quiet hb, fun k hk => ⟨(h2 k hk).1, Nat.lt_of_lt_of_le (h2 k hk).2 l1⟩, h3, h4, blk_below h5 hb, ?_, fun b o hk => ⟨(h7 b o hk).1, (h7 b o hk).2.1, blk_below (h7 b o hk).2.2 hb⟩⟩, h.below.trans (hb.mono h.below.size)⟩
  cases hs : p.shut with
  | none => rw [hs] at h6; exact h6
  | some m =>
    rw [hs] at h6
    obtain ⟨gm, a1, a2, a3, a4, a5⟩ := h6
    exact ⟨gm, a1, a2, a3, a4, blk_below a5 hb⟩
/-- What is new beside them is kept too. -/
theorem PK.add (h : PK K w0 w g d gp p) (hb : Below w.heap.size w w') {b0 : Nat} {o0 : Obj} (hl : w.heap.size ≤ b0) (ho : w'.heap[b0]? = some o0) : PK (fun b o => K b o ∨ (b = b0 ∧ o = o0)) w0 w' g d gp p := by
  have hlt : ∀ k, k < w.heap.size → k ≠ b0 := fun k hk e => by omega
  obtain ⟨ok, y, sp, h1, h2, h3, h4, h5, h6, h7⟩ := h.at_
  have h5l := blk_lt h5
  obtain ⟨ok', y', sp', i1, i2, i3, i4, i5, i6, i7⟩ := (h.quiet hb).at_
  have l1 := hb.size
  refine ⟨⟨ok, y, sp, h1.quiet hb, fun k hk => ⟨(h2 k hk).1, Nat.lt_of_lt_of_le (h2 k hk).2 l1⟩, h3, h4, blk_below h5 hb, ?_, ?_⟩, h.below.trans (hb.mono h.below.size)⟩
  · cases hs : p.shut with
    | none => rw [hs] at h6; exact h6
    | some m =>
      rw [hs] at h6
      obtain ⟨gm, a1, a2, a3, a4, a5⟩ := h6
      exact ⟨gm, a1, a2, a3, a4, blk_below a5 hb⟩
  · rintro b o (hk | ⟨rfl, rfl⟩)
    · exact ⟨(h7 b o hk).1, (h7 b o hk).2.1, blk_below (h7 b o hk).2.2 hb⟩
    · exact ⟨fun hk => by have := (h2 _ hk).2; omega, fun e => hlt gp h5l e.symm, ho⟩
/-- The device's own call, the pager beside it. -/
theorem PK.does (h : PK K w0 w g d gp p) {F : FuncId} {args : Array Value} {v : Value} (hc : ∀ (ok : Nat → Prop) y, (∀ k, ok k → w0.heap.size ≤ k) → DAt w ok g d y → Calls Tryd.prog F args w (Does ok g d' v w)) :
    Calls Tryd.prog F args w (fun e w' => e = .returned v ∧ PK K w0 w' g d' gp p) := by
  obtain ⟨ok, y, sp, h1, h2, h3, h4, h5, h6, h7⟩ := h.at_
  refine (hc ok y (fun k hk => (h2 k hk).1) h1).mono ?_
  rintro e w' ⟨he, ⟨y', hy'⟩, ht⟩
  have l0 := h.below.size
  have l1 := ht.size
  have lp := blk_lt h5
  have keep : ∀ k (o : Obj), w.heap[k]? = some o → ¬ ok k → w'.heap[k]? = some o := fun k o hk hn => (ht.block k (blk_lt hk) hn).trans hk
  refine ⟨he, ⟨_, y', sp, hy'.narrow, ?_, ?_, h4, keep gp _ h5 h3, ?_, ?_⟩, h.below.trans (ht.below (fun k _ hk => (h2 k hk).1) l0)⟩
  · rintro k ⟨hk | hk, hl⟩
    · exact ⟨(h2 k hk).1, hl⟩
    · exact ⟨Nat.le_trans l0 hk, hl⟩
  · rintro ⟨hk | hk, _⟩
    · exact h3 hk
    · omega
  · cases hs : p.shut with
    | none => rw [hs] at h6; exact h6
    | some m =>
      rw [hs] at h6
      obtain ⟨gm, a1, a2, a3, a4, a5⟩ := h6
      refine ⟨gm, a1, ?_, a3, a4, keep gm _ a5 a2⟩
      rintro ⟨hk | hk, _⟩
      · exact a2 hk
      · have := blk_lt a5; omega
  · intro b o hb
    obtain ⟨b1, b2, b3⟩ := h7 b o hb
    refine ⟨?_, b2, keep b o b3 b1⟩
    rintro ⟨hk | hk, _⟩
    · exact b1 hk
    · have := blk_lt b3; omega
theorem PK.fused (h : PK K w0 w g d gp p) (n : Int) : Calls Tryd.prog 23 #[.pointer (some ⟨g, 0, none⟩), .int .i64 n] w (fun e w' => e = .returned (.int .i64 (d.fused n).2) ∧ PK K w0 w' g (d.fused n).1 gp p) :=
  h.does fun ok y _ hy => fused_calls w hy n
theorem PK.cut (h : PK K w0 w g d gp p) : Calls Tryd.prog 25 #[.pointer (some ⟨g, 0, none⟩)] w (fun e w' => e = .returned (.int .i64 d.cut.2) ∧ PK K w0 w' g d.cut.1 gp p) :=
  h.does fun ok y _ hy => cut_calls w hy
/-- A pager whose block has turned, in a world that is otherwise as it was. -/
theorem PK.turned {w5 w6 : World} {ok : Nat → Prop} {y : Lay} {p' : G} {sp : Value} (h1 : DAt w5 ok g d y) (h2 : ∀ k, ok k → w0.heap.size ≤ k ∧ k < w5.heap.size) (h3 : ¬ ok gp) (h4 : w0.heap.size ≤ gp) (hb : Below w0.heap.size w0 w5)
    (far : ∀ k, k ≠ gp → w6.heap[k]? = w5.heap[k]?) (hb6 : Below w0.heap.size w0 w6) (hsz : w6.heap.size = w5.heap.size) (hp : PB w6 gp g p' sp) (hs : Shut w0 w6 ok gp p'.shut sp) (hk : ∀ b o, K b o → ¬ ok b ∧ b ≠ gp ∧ w5.heap[b]? = some o) : PK K w0 w6 g d gp p' :=
  ⟨⟨ok, y, sp, h1.move (fun k hk _ => far k (fun e => h3 (e ▸ hk))) (fun _ h _ => h), fun k hk => ⟨(h2 k hk).1, by rw [hsz]; exact (h2 k hk).2⟩, h3, h4, hp, hs, fun b o hb => ⟨(hk b o hb).1, (hk b o hb).2.1, (far b (hk b o hb).2.1).trans (hk b o hb).2.2⟩⟩, hb6⟩
theorem PK.after {W w5 : World} {ok : Nat → Prop} {y y' : Lay} {d1 : D} (h1 : DAt w ok g d y) (h2 : ∀ k, ok k → w0.heap.size ≤ k ∧ k < w.heap.size) (hb0 : Below w0.heap.size w0 w) (hW : Below w.heap.size w W) (hy : DAt w5 (fun k => ok k ∨ W.heap.size ≤ k) g d1 y') (ht : Turn ok W w5) :
    (∀ k, ((ok k ∨ W.heap.size ≤ k) ∧ k < w5.heap.size) → w0.heap.size ≤ k ∧ k < w5.heap.size) ∧ DAt w5 (fun k => (ok k ∨ W.heap.size ≤ k) ∧ k < w5.heap.size) g d1 y' ∧ Below w0.heap.size w0 w5 ∧ (∀ k, k < W.heap.size → ¬ ok k → ¬ ((ok k ∨ W.heap.size ≤ k) ∧ k < w5.heap.size)) := by
  have l0 := hb0.size
  have l1 := hW.size
  refine ⟨?_, hy.narrow, (hb0.trans (hW.mono l0)).trans (ht.below (fun k _ hk => (h2 k hk).1) (Nat.le_trans l0 l1)), ?_⟩
  · rintro k ⟨hk | hk, hl⟩
    · exact ⟨(h2 k hk).1, hl⟩
    · exact ⟨by omega, hl⟩
  · rintro k hk hn ⟨h | h, _⟩
    · exact hn h
    · omega
theorem PK.past {W w5 : World} {ok : Nat → Prop} (h7 : ∀ b o, K b o → ¬ ok b ∧ b ≠ gp ∧ w.heap[b]? = some o) (hW : Below w.heap.size w W) (ht : Turn ok W w5) :
    ∀ b o, K b o → ¬ ((ok b ∨ W.heap.size ≤ b) ∧ b < w5.heap.size) ∧ b ≠ gp ∧ w5.heap[b]? = some o := by
  intro b o hb
  obtain ⟨b1, b2, b3⟩ := h7 b o hb
  have l1 := hW.size
  have l2 := blk_lt b3
  refine ⟨?_, b2, (ht.block b (Nat.lt_of_lt_of_le l2 l1) b1).trans (blk_below b3 hW)⟩
  rintro ⟨h | h, _⟩
  · exact b1 h
  · omega
def SealPost (K : Nat → Obj → Prop) (w0 : World) (g gp : Nat) (r : D × G × Int) (e : Ending) (w' : World) : Prop := e = .returned (.int .i64 r.2.2) ∧ PK K w0 w' g r.1 gp r.2.1
set_option maxHeartbeats 4000000 in
set_option maxRecDepth 100000 in
theorem seal_go (h : PK K w0 w g d gp p) (hr : RowAt w0) (hs : p.shut = none) (m : M) (hm : m.right) (hl : m.limit = p.cur.limit) (ht : m.txn = p.cur.txn + 1) {k : Nat} (hbd : Bd d k) (hk : k < 1000000) (d1 : D) (c : Int) (hw : d.write (m.txn % 2) (ba (m.bytes crcSum)) = (d1, c)) :
    Calls Tryd.prog 19 #[.pointer (some ⟨gp, 0, none⟩), .agg m.cells] w (SealPost K w0 g gp (if c ≠ 0 then (d1, p, c) else (d1, { p with shut := some m }, 0))) := by
  obtain ⟨res, hres⟩ : ∃ r : D × G × Int, r = (if c ≠ 0 then (d1, p, c) else (d1, { p with shut := some m }, 0)) := ⟨_, rfl⟩
  rw [← hres]
  have HRes := Aside0.mk hres
  have HPk := Aside0.mk (fun W hb => pack_right m hm W (hr.below (B := w0.heap.size) hb hr.pos))
  obtain ⟨ok, y, sp, h1, h2, h3, h4, h5, h6, h7⟩ := h.at_
  have HK7 := Aside0.mk h7
  clear h7
  rw [hs] at h6
  obtain rfl : sp = .pointer none := h6
  have HW := Aside0.mk (fun W (hb : Below w.heap.size w W) => write_calls W (h1.quiet hb) (m.txn % 2) (ba (m.bytes crcSum)) hbd.f0 hbd.f2 hbd.s0 (by have := hbd.s2; omega) hbd.w0 (by have := hbd.w2; omega) (fun n => by have := hbd.few n; omega))
  rw [hw] at HW
  have hm2 := hm
  obtain ⟨q1, q2, _⟩ := hm2
  have hx0 : 0 ≤ m.txn := q1
  have HB0 := Aside0.mk h.below
  have HH := Aside0.mk (And.intro h1 (And.intro h2 (And.intro h3 (And.intro h4 h5))))
  have HS := Aside0.mk hs
  have hmod := Aside0.mk (show m.txn % 2 = m.txn.tmod 2 by rw [Int.tmod_eq_emod_of_nonneg hx0])
  obtain ⟨M0, HM0⟩ : ∃ M0, M0 = m := ⟨_, rfl⟩
  rw [← HM0] at HRes
  have HMM := Aside0.mk HM0
  obtain ⟨m1, m2, m3, m4, m5⟩ := m
  obtain ⟨P0, HP0⟩ : ∃ P0, P0 = p := ⟨_, rfl⟩
  rw [← HP0] at HRes HS HH
  have HPP := Aside0.mk HP0
  obtain ⟨⟨p1, p2, p3, p4, p5⟩, ⟨o1, o2, o3, o4, o5⟩, pbo, psh⟩ := p
  dsimp only at hs hl ht hx0 q2
  subst hs
  subst hl
  have a1 : IntKind.i64.wrap (m1 - 1) = p1 := by rw [IntKind.wrap_i64]; omega
  generalize ba (M.bytes crcSum ⟨m1, m2, m3, m4, m5⟩) = bs at *
  unfold M.cells at HPk ⊢
  unfold PB G.cells at h5
  dsimp only at HPk HW h5 ⊢
  clear h hr hm hw hres hbd hk q1 q2 hx0 h1 h2 h3 h4 HM0 HP0 ht
  go_enter Tryd.func19, Tryd.ntmps19
  go_wp2_with fail
  refine (HPk.out _ (below_alloc HB0.out _)).mono ?_
  rintro e w1 ⟨rfl, hb⟩
  have hx := blk_below (blk_new w (.cells #[.int .i64 m1, .int .i64 m2, .int .i64 m3, .int .i64 m4, .int .i64 m5] 32)) hb
  have HX := Aside0.mk hx
  have HB1 := Aside0.mk (below_step (below_alloc (Below.refl w.heap.size w) (.cells #[.int .i64 m1, .int .i64 m2, .int .i64 m3, .int .i64 m4, .int .i64 m5] 32)) hb)
  have hpb := blk_below h5 HB1.out
  have c0 := (blk_cell hx 0).trans rfl
  have c4 := (blk_cell hx 4).trans rfl
  have d0 := (blk_cell hpb 0).trans rfl
  have d1' := (blk_cell hpb 1).trans rfl
  have d5 := (blk_cell hpb 5).trans rfl
  have d12 := (blk_cell hpb 12).trans rfl
  have HPB := Aside0.mk hpb
  clear hb hx hpb h5
  go_wp2_with fail
  go_quiet (fail)
  go_wp2_with fail
  go_quiet (fail)
  go_wp2_with fail
  rw [hmod.out] at HW
  have hgm : ¬ ok w.heap.size := fun h => Nat.lt_irrefl _ (HH.out.2.1 _ h).2
  go_region_held3 (fun w' => w'.cell? ⟨w.heap.size, 0, none⟩ = some (.int .i64 m1) ∧ w'.cell? ⟨gp, 0, none⟩ = some (.pointer (some ⟨g, 0, none⟩))) (first | exact ⟨c0, d0⟩ | exact ⟨q0, q1⟩) ((first
    | (go_at_call 12; (with_reducible refine (HW.out _ (below_drewN HB1.out _)).mono ?_); rintro e w5 ⟨rfl, ⟨y', hy⟩, ht⟩; have hx5 := (ht.block w.heap.size (blk_lt HX.out) hgm).trans HX.out; have hp5 := (ht.block gp (blk_lt HPB.out) HH.out.2.2.1).trans HPB.out; have q0 := (blk_cell hx5 0).trans rfl; have q1 := (blk_cell hp5 0).trans rfl; have HY5 := Aside0.mk hy; have HT5 := Aside0.mk ht; have HX5 := Aside0.mk hx5; have HP5 := Aside0.mk hp5; clear hx5 hp5)))
  obtain ⟨z1, z2, z3, z4⟩ := PK.after HH.out.1 HH.out.2.1 HB0.out (below_drewN HB1.out _) HY5.out HT5.out
  have HK5 := Aside0.mk (PK.past HK7.out (below_drewN HB1.out _) HT5.out)
  have HZ := Aside0.mk (And.intro z1 (And.intro z2 (And.intro z3 z4)))
  have HGP := Aside0.mk (z4 gp (blk_lt HPB.out) HH.out.2.2.1)
  have HGM := Aside0.mk (z4 w.heap.size (blk_lt HX.out) hgm)
  clear z1 z2 z3 z4 hy ht c0 c4 d0 d1' d5 d12 q0 q1
  by_cases hc : c = 0
  · subst hc
    have HR2 := HRes.out
    rw [if_neg (fun h => h rfl)] at HR2
    have HR3 := Aside0.mk HR2
    have f5 := blk_frozen HP5.out
    have e12 := (blk_cell HP5.out 12).trans rfl
    clear HRes HR2
    go_wp2_with fail
    go_ret
    rw [HR3.out]
    refine ⟨rfl, PK.turned (sp := .pointer (some ⟨w.heap.size, 0, none⟩)) HZ.out.2.1 HZ.out.1 HGP.out HH.out.2.2.2.1 HZ.out.2.2.1 (fun k hk => Below.heap_setCell _ _ _ k hk) (HZ.out.2.2.1.setCell (by exact HH.out.2.2.2.1) _) (by simp [World.setCell]) ?_ ?_ HK5.out⟩
    · have := blk_put HP5.out 12 (.pointer (some ⟨w.heap.size, 0, none⟩)) rfl
      unfold PB
      rw [HPP.out]
      exact this
    · refine ⟨w.heap.size, rfl, HGM.out, ?_, HB0.out.size, ?_⟩
      · have := blk_lt HH.out.2.2.2.2
        omega
      · rw [HMM.out]
        exact (Below.heap_setCell _ _ _ _ (by have := blk_lt HH.out.2.2.2.2; show w.heap.size ≠ gp; omega)).trans HX5.out
  · have hc1 : (c == 0) = false := beq_eq_false_iff_ne.mpr hc
    have HR2 := HRes.out
    rw [if_pos hc] at HR2
    have HR3 := Aside0.mk HR2
    clear HRes HR2
    go_wp2_with fail
    go_ret
    rw [HR3.out]
    refine ⟨rfl, ⟨⟨_, _, .pointer none, HZ.out.2.1, HZ.out.1, HGP.out, HH.out.2.2.2.1, ?_, by rw [HS.out]; rfl, HK5.out⟩, HZ.out.2.2.1⟩⟩
    unfold PB
    rw [HPP.out]
    exact HP5.out
end
end
end Go.Proofs.YtjbkkmgkckopdaaDoor.Pg
