/- What is sealed is done. -/
import Derived.Test.YtjbkkmgkckopdaaDoorSeal
namespace Go.Proofs.YtjbkkmgkckopdaaDoor.Pg
open Go.RowKit Go.Proofs.YtjbkkmgkckopdaaDoorW.PrintWords Go.Proofs.YtjbkkmgkckopdaaDoorW.PrintLast Go.Proofs.YtjbkkmgkckopdaaDoorW.PrintMore Go.Proofs.YtjbkkmgkckopdaaDoor.Num Go.Proofs.YtjbkkmgkckopdaaDoor.Mem Go.Proofs.YtjbkkmgkckopdaaDoor.Dv
set_option linter.unusedVariables false
set_option linter.unusedSimpArgs false
section
variable {w0 w w' : World} {g gp : Nat} {d d' : D} {p : G}
/-- The block of a pager, a meta the present one, the elder one the other, none sealed. -/
def turn12 (w : World) (gp : Nat) (o1 o2 o3 o4 o5 n1 n2 n3 n4 n5 : Value) : World :=
  ((((((((((((w.setCell ⟨gp, 6, none⟩ o1).setCell ⟨gp, 7, none⟩ o2).setCell ⟨gp, 8, none⟩ o3).setCell ⟨gp, 9, none⟩ o4).setCell ⟨gp, 10, none⟩ o5).setCell ⟨gp, 11, none⟩ (.bool true)).setCell ⟨gp, 1, none⟩ n1).setCell ⟨gp, 2, none⟩ n2).setCell ⟨gp, 3, none⟩ n3).setCell ⟨gp, 4, none⟩ n4).setCell ⟨gp, 5, none⟩ n5).setCell ⟨gp, 12, none⟩ (.pointer none))
theorem turn12_far {w : World} {gp : Nat} {o1 o2 o3 o4 o5 n1 n2 n3 n4 n5 : Value} (k : Nat) (hk : k ≠ gp) : (turn12 w gp o1 o2 o3 o4 o5 n1 n2 n3 n4 n5).heap[k]? = w.heap[k]? := by
  unfold turn12
  repeat rw [Below.heap_setCell _ _ _ k hk]
theorem Six.far {w : World} {gp gm : Nat} (o1 o2 o3 o4 o5 o6 : Value) (h : gm ≠ gp) : ((((((w.setCell ⟨gp, 6, none⟩ o1).setCell ⟨gp, 7, none⟩ o2).setCell ⟨gp, 8, none⟩ o3).setCell ⟨gp, 9, none⟩ o4).setCell ⟨gp, 10, none⟩ o5).setCell ⟨gp, 11, none⟩ o6).heap[gm]? = w.heap[gm]? := by
  repeat rw [Below.heap_setCell _ _ _ gm h]
theorem turn12_size {w : World} {gp : Nat} {o1 o2 o3 o4 o5 n1 n2 n3 n4 n5 : Value} : (turn12 w gp o1 o2 o3 o4 o5 n1 n2 n3 n4 n5).heap.size = w.heap.size := by
  unfold turn12
  simp [World.setCell]
theorem turn12_below {B : Nat} {w0 w : World} {gp : Nat} (h : Below B w0 w) (hg : B ≤ gp) {o1 o2 o3 o4 o5 n1 n2 n3 n4 n5 : Value} : Below B w0 (turn12 w gp o1 o2 o3 o4 o5 n1 n2 n3 n4 n5) := by
  unfold turn12
  exact (((((((((((h.setCell hg _).setCell hg _).setCell hg _).setCell hg _).setCell hg _).setCell hg _).setCell hg _).setCell hg _).setCell hg _).setCell hg _).setCell hg _).setCell hg _
theorem PK.turned12 {K : Nat → Obj → Prop} {w5 : World} {ok : Nat → Prop} {y : Lay} {o1 o2 o3 o4 o5 c1 c2 c3 c4 c5 n1 n2 n3 n4 n5 : Int} {pbo : Bool} {sp : Value} (h1 : DAt w5 ok g d y) (h2 : ∀ k, ok k → w0.heap.size ≤ k ∧ k < w5.heap.size) (h3 : ¬ ok gp) (h4 : w0.heap.size ≤ gp) (hb : Below w0.heap.size w0 w5)
    (hq : w5.heap[gp]? = some (.cells #[.pointer (some ⟨g, 0, none⟩), .int .i64 c1, .int .i64 c2, .int .i64 c3, .int .i64 c4, .int .i64 c5, .int .i64 o1, .int .i64 o2, .int .i64 o3, .int .i64 o4, .int .i64 o5, .bool pbo, sp, .slice none 0 0] 71 (0, 0))) (hk : ∀ b o, K b o → ¬ ok b ∧ b ≠ gp ∧ w5.heap[b]? = some o) :
    PK K w0 ((((((((((((w5.setCell ⟨gp, 6, none⟩ (.int .i64 c1)).setCell ⟨gp, 7, none⟩ (.int .i64 c2)).setCell ⟨gp, 8, none⟩ (.int .i64 c3)).setCell ⟨gp, 9, none⟩ (.int .i64 c4)).setCell ⟨gp, 10, none⟩ (.int .i64 c5)).setCell ⟨gp, 11, none⟩ (.bool true)).setCell ⟨gp, 1, none⟩ (.int .i64 n1)).setCell ⟨gp, 2, none⟩ (.int .i64 n2)).setCell ⟨gp, 3, none⟩ (.int .i64 n3)).setCell ⟨gp, 4, none⟩ (.int .i64 n4)).setCell ⟨gp, 5, none⟩ (.int .i64 n5)).setCell ⟨gp, 12, none⟩ (.pointer none)) g d gp ⟨⟨n1, n2, n3, n4, n5⟩, ⟨c1, c2, c3, c4, c5⟩, true, none⟩ := by
  have hp := blk_set (blk_set (blk_set (blk_set (blk_set (blk_set (blk_set (blk_set (blk_set (blk_set (blk_set (blk_set hq 6 (.int .i64 c1)) 7 (.int .i64 c2)) 8 (.int .i64 c3)) 9 (.int .i64 c4)) 10 (.int .i64 c5)) 11 (.bool true)) 1 (.int .i64 n1)) 2 (.int .i64 n2)) 3 (.int .i64 n3)) 4 (.int .i64 n4)) 5 (.int .i64 n5)) 12 (.pointer none)
  simp only [List.setIfInBounds_toArray, List.set_cons_zero, List.set_cons_succ] at hp
  have hf := fun k (hk : k ≠ gp) => turn12_far (w := w5) (gp := gp) (o1 := .int .i64 c1) (o2 := .int .i64 c2) (o3 := .int .i64 c3) (o4 := .int .i64 c4) (o5 := .int .i64 c5) (n1 := .int .i64 n1) (n2 := .int .i64 n2) (n3 := .int .i64 n3) (n4 := .int .i64 n4) (n5 := .int .i64 n5) k hk
  have hB := turn12_below hb h4 (o1 := .int .i64 c1) (o2 := .int .i64 c2) (o3 := .int .i64 c3) (o4 := .int .i64 c4) (o5 := .int .i64 c5) (n1 := .int .i64 n1) (n2 := .int .i64 n2) (n3 := .int .i64 n3) (n4 := .int .i64 n4) (n5 := .int .i64 n5)
  have hS := turn12_size (w := w5) (gp := gp) (o1 := .int .i64 c1) (o2 := .int .i64 c2) (o3 := .int .i64 c3) (o4 := .int .i64 c4) (o5 := .int .i64 c5) (n1 := .int .i64 n1) (n2 := .int .i64 n2) (n3 := .int .i64 n3) (n4 := .int .i64 n4) (n5 := .int .i64 n5)
  unfold turn12 at hf hB hS
  generalize ((((((((((((w5.setCell ⟨gp, 6, none⟩ (.int .i64 c1)).setCell ⟨gp, 7, none⟩ (.int .i64 c2)).setCell ⟨gp, 8, none⟩ (.int .i64 c3)).setCell ⟨gp, 9, none⟩ (.int .i64 c4)).setCell ⟨gp, 10, none⟩ (.int .i64 c5)).setCell ⟨gp, 11, none⟩ (.bool true)).setCell ⟨gp, 1, none⟩ (.int .i64 n1)).setCell ⟨gp, 2, none⟩ (.int .i64 n2)).setCell ⟨gp, 3, none⟩ (.int .i64 n3)).setCell ⟨gp, 4, none⟩ (.int .i64 n4)).setCell ⟨gp, 5, none⟩ (.int .i64 n5)).setCell ⟨gp, 12, none⟩ (.pointer none)) = w6 at *
  exact PK.turned (sp := .pointer none) h1 h2 h3 h4 hb hf hB hS hp rfl hk
set_option maxHeartbeats 4000000 in
set_option maxRecDepth 100000 in
theorem done_go {K : Nat → Obj → Prop} (h : PK K w0 w g d gp p) (m : M) (hs : p.shut = some m) {k : Nat} (hbd : Bd d k) (hk : k < 1000000) (d1 : D) (c : Int) (hw : d.sync = (d1, c)) :
    Calls Tryd.prog 20 #[.pointer (some ⟨gp, 0, none⟩)] w (SealPost K w0 g gp (if c ≠ 0 then (d1, p, c) else (d1, ⟨m, p.cur, true, none⟩, 0))) := by
  obtain ⟨res, hres⟩ : ∃ r : D × G × Int, r = (if c ≠ 0 then (d1, p, c) else (d1, ⟨m, p.cur, true, none⟩, 0)) := ⟨_, rfl⟩
  rw [← hres]
  have HRes := Aside0.mk hres
  obtain ⟨ok, y, sp, h1, h2, h3, h4, h5, h6, h7⟩ := h.at_
  have HK7 := Aside0.mk h7
  clear h7
  rw [hs] at h6
  obtain ⟨gm, rfl, m1, m2, m3, m4⟩ := h6
  have HW := Aside0.mk (sync_calls w h1 hbd.f0 hbd.f2 hbd.s0 (by have := hbd.s2; omega))
  rw [hw] at HW
  have HB0 := Aside0.mk h.below
  have HH := Aside0.mk (And.intro h1 (And.intro h2 (And.intro h3 (And.intro h4 h5))))
  have HM := Aside0.mk (And.intro m1 (And.intro m2 (And.intro m3 m4)))
  obtain ⟨P0, HP0⟩ : ∃ P0, P0 = p := ⟨_, rfl⟩
  rw [← HP0] at HRes HH
  have HPP := Aside0.mk HP0
  obtain ⟨⟨p1, p2, p3, p4, p5⟩, ⟨o1, o2, o3, o4, o5⟩, pbo, psh⟩ := p
  dsimp only at hs
  subst hs
  unfold PB G.cells at h5
  dsimp only at h5
  have d0 := (blk_cell h5 0).trans rfl
  have d12 := (blk_cell h5 12).trans rfl
  clear h hw hres hbd hk h1 h2 h3 h4 HP0 m1 m2 m3 m4 h5
  go_enter Tryd.func20, Tryd.ntmps20
  go_wp2_with fail
  refine HW.out.mono ?_
  rintro e w5 ⟨rfl, ⟨y', hy⟩, ht⟩
  obtain ⟨z1, z2, z3, z4⟩ := PK.after HH.out.1 HH.out.2.1 HB0.out (Below.refl _ _) hy ht
  have HK5 := Aside0.mk (PK.past HK7.out (Below.refl _ _) ht)
  have HZ := Aside0.mk (And.intro z1 (And.intro z2 (And.intro z3 z4)))
  have HGP := Aside0.mk (z4 gp (blk_lt HH.out.2.2.2.2) HH.out.2.2.1)
  have HGM := Aside0.mk (z4 gm (blk_lt HM.out.2.2.2) HM.out.1)
  have HP5 : Aside0 (PB w5 gp g P0 (.pointer (some ⟨gm, 0, none⟩))) := Aside0.mk ((ht.block gp (blk_lt HH.out.2.2.2.2) HH.out.2.2.1).trans HH.out.2.2.2.2)
  have HM5 := Aside0.mk ((ht.block gm (blk_lt HM.out.2.2.2) HM.out.1).trans HM.out.2.2.2)
  clear z1 z2 z3 z4 hy ht d0 d12
  by_cases hc : c = 0
  · subst hc
    have HR2 := HRes.out
    rw [if_neg (fun h => h rfl)] at HR2
    have HR3 := Aside0.mk HR2
    have hp := HP5.out
    unfold PB at hp
    rw [HPP.out] at hp
    unfold G.cells at hp
    dsimp only at hp
    have HQ := Aside0.mk hp
    have hmm := HM5.out
    unfold M.cells at hmm
    have f5 := blk_frozen hp
    have e1 := (blk_cell hp 1).trans rfl
    have e2 := (blk_cell hp 2).trans rfl
    have e3 := (blk_cell hp 3).trans rfl
    have e4 := (blk_cell hp 4).trans rfl
    have e5 := (blk_cell hp 5).trans rfl
    have e6 := (blk_cell hp 6).trans rfl
    have e7 := (blk_cell hp 7).trans rfl
    have e8 := (blk_cell hp 8).trans rfl
    have e9 := (blk_cell hp 9).trans rfl
    have e10 := (blk_cell hp 10).trans rfl
    have e11 := (blk_cell hp 11).trans rfl
    have e12 := (blk_cell hp 12).trans rfl
    have hq8 : ((((((w5.setCell ⟨gp, 6, none⟩ (.int .i64 p1)).setCell ⟨gp, 7, none⟩ (.int .i64 p2)).setCell ⟨gp, 8, none⟩ (.int .i64 p3)).setCell ⟨gp, 9, none⟩ (.int .i64 p4)).setCell ⟨gp, 10, none⟩ (.int .i64 p5)).setCell ⟨gp, 11, none⟩ (.bool true)).heap[gm]? = _ := (Six.far _ _ _ _ _ _ HM.out.2.1).trans hmm
    have q0 := (blk_cell hq8 0).trans rfl
    have q1 := (blk_cell hq8 1).trans rfl
    have q2 := (blk_cell hq8 2).trans rfl
    have q3 := (blk_cell hq8 3).trans rfl
    have q4 := (blk_cell hq8 4).trans rfl
    clear hq8
    clear HRes HR2 hp hmm
    go_wp2_with fail
    go_ret
    rw [HR3.out]
    rw [HPP.out]
    exact ⟨rfl, PK.turned12 HZ.out.2.1 HZ.out.1 HGP.out HH.out.2.2.2.1 HZ.out.2.2.1 HQ.out HK5.out⟩
  · have hc1 : (c == 0) = false := beq_eq_false_iff_ne.mpr hc
    have HR2 := HRes.out
    rw [if_pos hc] at HR2
    have HR3 := Aside0.mk HR2
    clear HRes HR2
    go_wp2_with fail
    go_ret
    rw [HR3.out]
    refine ⟨rfl, ⟨⟨_, _, .pointer (some ⟨gm, 0, none⟩), HZ.out.2.1, HZ.out.1, HGP.out, HH.out.2.2.2.1, HP5.out, ?_, HK5.out⟩, HZ.out.2.2.1⟩⟩
    rw [HPP.out]
    exact ⟨gm, rfl, HGM.out, HM.out.2.1, HM.out.2.2.1, HM5.out⟩
end
end Go.Proofs.YtjbkkmgkckopdaaDoor.Pg
