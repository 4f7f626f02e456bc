/- The readers' first law (ReadersPlay), walked. -/
import Derived.Test.YtjbkkmgkckopdaaGuard
import Derived.Deep.DeepCutAuto
import Derived.Deep.CutBlock
namespace Go.Proofs.Ytjbkkmgkckopdaa.Rd
open Go.RowKit Go.Proofs.YtjbkkmgkckopdaaW.PrintWords Go.Proofs.YtjbkkmgkckopdaaW.PrintLast Go.Proofs.YtjbkkmgkckopdaaW.PrintMore
set_option linter.unusedVariables false
set_option linter.unusedSimpArgs false
theorem Only.at_ {g k : Nat} {w w' : World} (h : Only g w w') (hk : k < w.heap.size) (hne : k ≠ g) : w'.heap[k]? = w.heap[k]? := h.block k hk hne
theorem RT.only {w w' : World} {h q g : Nat} {r : R} (ht : RT w h q r) (ho : Only g w w') (h1 : h ≠ g) (h2 : q ≠ g) : RT w' h q r := ht.move (ho.block h ht.lt.1 h1) (ho.block q ht.lt.2 h2)
theorem RT.below {w w' : World} {h q : Nat} {r : R} (ht : RT w h q r) (hb : Below w.heap.size w w') : RT w' h q r := ht.move (hb.block h ht.lt.1) (hb.block q ht.lt.2)
theorem tb_only {w w' : World} {g g' : Nat} {t : T} (ht : Tb w g t) (ho : Only g' w w') (h1 : g ≠ g') : Tb w' g t := (ho.block g (tb_lt ht) h1).trans ht
/-- The two tables in memory, alike; nothing below B has turned. -/
structure Both (w0 : World) (w : World) (g h q : Nat) (t : T) (r : R) : Prop where
  bel : Below w0.heap.size w0 w
  tb : Tb w g t
  rt : RT w h q r
  like : Like t r
  g0 : w0.heap.size ≤ g
  h0 : w0.heap.size ≤ h
  q0 : w0.heap.size ≤ q
  hg : h ≠ g
  qg : q ≠ g
theorem Both.quiet {w0 w w' : World} {g h q : Nat} {t : T} {r : R} (b : Both w0 w g h q t r) (hb : Below w.heap.size w w') : Both w0 w' g h q t r :=
  ⟨below_step b.bel hb, tb_below b.tb hb, b.rt.below hb, b.like, b.g0, b.h0, b.q0, b.hg, b.qg⟩
theorem Both.drewN {w0 w : World} {g h q : Nat} {t : T} {r : R} (b : Both w0 w g h q t r) (n : Nat) : Both w0 (w.drewN n) g h q t r := ⟨pw_below_drewN b.bel n, b.tb, b.rt, b.like, b.g0, b.h0, b.q0, b.hg, b.qg⟩
theorem Both.turnT {w0 w w1 w2 : World} {g h q : Nat} {t t' : T} {r r' : R} (b : Both w0 w g h q t r) (ho : Only g w w1) (ht : Tb w1 g t') (ho2 : Only q w1 w2) (hr : RT w2 h q r') (hl : Like t' r') : Both w0 w2 g h q t' r' :=
  have hb1 := below_only b.bel ho b.g0 b.bel.size
  ⟨below_only hb1 ho2 b.q0 hb1.size, tb_only ht ho2 b.qg.symm, hr, hl, b.g0, b.h0, b.q0, b.hg, b.qg⟩
theorem getD_nth (ys : List Int) (i : Nat) (h : i < ys.length) : ys.getD i 0 = ys[i] := by rw [List.getD_eq_getElem?_getD, List.getElem?_eq_getElem h]; rfl
/-- Where a sorted list of the call's own lies. -/
theorem own_int_cell {w : World} {B n : Nat} {v : Value} {ys : List Int} (ho : w.ownsRow B 3 1 v n (ints ys)) (hn : ys.length = n) (h0 : 0 < n) : ∃ g cap, v = .slice (some ⟨g, 0, none⟩) n cap ∧ ∀ i, (h : i < ys.length) → w.cell? ⟨g, i, none⟩ = some (.int .i64 ys[i]) := by
  rcases ho.2 with ⟨_, h1⟩ | ⟨g, cap, cur, hv, _⟩
  · omega
  · refine ⟨g, cap, hv, fun i hi => ?_⟩
    have := ho.cells (g := g) (by rw [hv]; rfl) i (.int .i64 ys[i]) (by simp [ints, hi])
    simpa [add_plain] using this
theorem own_cell_at {w : World} {B n g cap : Nat} {ys : List Int} (ho : w.ownsRow B 3 1 (.slice (some ⟨g, 0, none⟩) n cap) n (ints ys)) (i : Nat) (hi : i < ys.length) : w.cell? ⟨g, i, none⟩ = some (.int .i64 ys[i]) := by
  have := ho.cells (g := g) rfl i (.int .i64 ys[i]) (by simp [ints, hi])
  simpa [add_plain] using this
/-- How many of the first j are x. -/
def cnt (ys : List Int) (x : Int) (j : Nat) : Int := ((ys.take j).count x : Nat)
theorem cnt_succ (ys : List Int) (x : Int) (j : Nat) (h : j < ys.length) : cnt ys x (j + 1) = cnt ys x j + (if ys[j] = x then 1 else 0) := by
  unfold cnt
  rw [List.take_succ_eq_append_getElem h, List.count_append]
  by_cases e : ys[j] = x
  · simp [e]
  · simp [e]
theorem cnt_le (ys : List Int) (x : Int) (j : Nat) : 0 ≤ cnt ys x j ∧ cnt ys x j ≤ j := by
  unfold cnt
  have h1 := List.count_le_length (a := x) (l := ys.take j)
  have h2 : (ys.take j).length ≤ j := List.length_take_le _ _
  omega
/-- The law on what is live: counted, and rising. -/
theorem live_law {t : T} {r : R} (hl : Like t r) {ys : List Int} (hp : ys.Perm t.live) (hs : SortedTo ys ys.length) :
    (ys.length : Int) = 4 - r.times (-1) ∧ ys.length ≤ 4 ∧ ∀ k, (h : k < ys.length) → cnt ys ys[k] ys.length = r.times ys[k] ∧ (0 < k → ys[k - 1] ≤ ys[k]) := by
  have h1 := like_count hl
  have h2 := hp.length_eq
  obtain ⟨h3, h4⟩ := R.times_le r (-1)
  refine ⟨by omega, by omega, fun k hk => ⟨?_, fun h0 => ?_⟩⟩
  · have h5 : 0 ≤ ys[k] := like_pos hl _ (hp.mem_iff.1 (List.getElem_mem hk))
    rw [← like_times hl _ h5, ← hp.count_eq]
    unfold cnt
    rw [List.take_length]
  · have := hs (k - 1) k (by omega) hk
    rwa [getD_nth _ _ (by omega), getD_nth _ _ hk] at this
set_option maxHeartbeats 16000000 in
set_option maxRecDepth 1000000 in
theorem play_calls (A : Option Addr) (c : Nat) (l : List (Int × Int)) (w : World) (hl : l.length ≤ 9223372036854775807) (hc : l.length ≤ c) (ha : ActsAt w A l) :
    Calls Try.prog 7 #[.slice A l.length c] w (YesPost w) := by
  have HA := Aside0.mk ha
  clear ha
  go_enter Try.func7, Try.ntmps7
  go_wp2_with fail
  refine (awake_calls _).mono ?_
  rintro e w1 ⟨rfl, hb⟩
  have HB1 := Aside0.mk hb
  clear hb
  go_wp2_with fail
  refine (new_calls _).mono ?_
  rintro e w2 ⟨rfl, ht, hb⟩
  have HB2 := Aside0.mk (below_step HB1.out hb)
  have HT := Aside0.mk (show Tb w2 w1.heap.size T.free from ht)
  have HG := Aside0.mk HB1.out.size
  clear hb ht HB1
  generalize w1.heap.size = g at HT HG
  go_wp2_with fail
  refine (ref_new _).mono ?_
  rintro e w3 ⟨ha, qa, rfl, hh, hq, hr, hb⟩
  have HBo := Aside0.mk (show Both w w3 g ha qa T.free R.free from ⟨below_step HB2.out hb, tb_below HT.out hb, hr, like_free, HG.out, Nat.le_trans HB2.out.size hh, Nat.le_trans HB2.out.size hq, by have := tb_lt HT.out; omega, by have := tb_lt HT.out; omega⟩)
  clear hh hq hr hb HB2 HT HG
  go_wp2_with fail
  go_loopg [4, 5] (l.length) (fun kx v4 v5 wr => ∃ (i : Nat) (t : T) (r : R) (h q : Nat), v4 = .pointer (some ⟨h, 0, none⟩) ∧ v5 = .int .i64 i ∧ i ≤ l.length ∧ i ≤ 60 ∧ l.length - i ≤ kx ∧ Aside0 (Both w wr g h q t r))
  case atStart => exact ⟨0, T.free, R.free, ha, qa, rfl, rfl, Nat.zero_le _, by omega, by omega, HBo⟩
  case round =>
    clear HBo
    obtain ⟨i, t, r, h, q, rfl, rfl, hil, hi60, hik, HBo⟩ := hrel
    by_cases hgo : i < l.length ∧ i < 60
    · obtain ⟨h1, h2⟩ := hgo
      have a1 : (i : Int) < (l.length : Int) := by omega
      have a2 : (i : Int) < 60 := by omega
      have b1 : decide ((i : Int) < (l.length : Int)) = true := decide_eq_true a1
      have b2 : decide ((i : Int) < 60) = true := decide_eq_true a2
      obtain ⟨ad, rfl, c0, c1⟩ := (HA.out.below HBo.out.bel) i h1
      generalize l[i].1 = kind at c0
      generalize l[i].2 = y at c1
      go_upto_block 2 with fail
      go_cut [4] (fun v4 wc => ∃ (t : T) (r : R) (h q : Nat), v4 = .pointer (some ⟨h, 0, none⟩) ∧ Aside0 (Both w wc g h q t r))
      case first =>
        by_cases k1 : kind = 1
        · subst k1
          go_wp2_with fail
          refine (enter_calls' g t y _ HBo.out.tb).mono ?_
          rintro e w4 ⟨rfl, ht, ho⟩
          go_wp2_with fail
          have hrt := HBo.out.rt.only ho HBo.out.hg HBo.out.qg
          refine (ref_enter h q r.a r.b r.c r.d y _ hrt).mono ?_
          rintro e w5 ⟨he, hr, ho2⟩
          obtain ⟨le1, le2⟩ := like_enter HBo.out.like y
          have e2 : e = .returned (.tuple #[.int .i64 (t.enter y).2.1, .int .i64 (t.enter y).2.2]) := by rw [le2]; exact he
          subst e2
          clear he
          have HB5 := Aside0.mk (HBo.out.turnT ho ht ho2 hr le1)
          clear ht ho hrt hr ho2 le1 le2 HBo
          generalize (t.enter y).1 = t' at HB5
          generalize (t.enter y).2.1 = v1
          generalize (t.enter y).2.2 = v2
          go_wp2_with fail
          go_meet
          case rel => exact ⟨t', _, h, q, rfl, HB5⟩
        · have e1 : (kind == 1) = false := beq_eq_false_iff_ne.mpr k1
          by_cases k2 : kind = 2
          · subst k2
            go_wp2_with fail
            refine (leave_calls' g t y _ HBo.out.tb).mono ?_
            rintro e w4 ⟨rfl, ht, ho⟩
            go_wp2_with fail
            have hrt := HBo.out.rt.only ho HBo.out.hg HBo.out.qg
            refine (ref_leave h q r.a r.b r.c r.d y _ hrt).mono ?_
            rintro e w5 ⟨he, hr, ho2⟩
            obtain ⟨le1, le2⟩ := like_leave HBo.out.like y
            have e2 : e = .returned (.int .i64 (t.leave y).2) := by rw [le2]; exact he
            subst e2
            clear he
            have HB5 := Aside0.mk (HBo.out.turnT ho ht ho2 hr le1)
            clear ht ho hrt hr ho2 le1 le2 HBo
            generalize (t.leave y).1 = t' at HB5
            generalize (t.leave y).2 = v1
            go_wp2_with fail
            go_meet
            case rel => exact ⟨t', _, h, q, rfl, HB5⟩
          · have e2 : (kind == 2) = false := beq_eq_false_iff_ne.mpr k2
            by_cases k3 : kind = 3
            · subst k3
              go_wp2_with fail
              refine (clear_calls g t _ HBo.out.tb).mono ?_
              rintro e w4 ⟨rfl, ht, ho⟩
              go_wp2_with fail
              have hrt := HBo.out.rt.only ho HBo.out.hg HBo.out.qg
              refine (ref_count h q r _ hrt).mono ?_
              rintro e w5 ⟨he, nd, rfl⟩
              have e2 : e = .returned (.int .i64 t.live.length) := by rw [like_count HBo.out.like]; exact he
              subst e2
              clear he
              generalize t.live.length = v1
              have HB5 := Aside0.mk (show Below w.heap.size w (w4.drewN nd) from pw_below_drewN (below_only HBo.out.bel ho HBo.out.g0 HBo.out.bel.size) _)
              have HT5 := Aside0.mk (show Tb (w4.drewN nd) g T.free from ht)
              have HG := Aside0.mk HBo.out.g0
              clear hrt ht ho HBo
              go_wp2_with fail
              refine (ref_new _).mono ?_
              rintro e w6 ⟨h', q', rfl, hh, hq, hr, hb⟩
              have HB6 := Aside0.mk (show Both w w6 g h' q' T.free R.free from ⟨below_step HB5.out hb, tb_below HT5.out hb, hr, like_free, HG.out, Nat.le_trans HB5.out.size hh, Nat.le_trans HB5.out.size hq, by have := tb_lt HT5.out; omega, by have := tb_lt HT5.out; omega⟩)
              clear hh hq hr hb HB5 HT5 HG
              go_wp2_with fail
              go_meet
              case rel => exact ⟨T.free, R.free, h', q', rfl, HB6⟩
            · have e3 : (kind == 3) = false := beq_eq_false_iff_ne.mpr k3
              go_wp2_with fail
              go_meet
              case rel => exact ⟨t, r, h, q, rfl, HBo⟩
      case rest =>
        clear HBo
        obtain ⟨t, r, h, q, rfl, HBo⟩ := hcut
        go_wp2_with fail
        refine (oldest_calls g t y _ HBo.out.tb).mono ?_
        rintro e w4 ⟨rfl, hb⟩
        have HB4 := Aside0.mk (HBo.out.quiet hb)
        clear hb HBo
        go_wp2_with fail
        refine (ref_oldest h q r y _ HB4.out.rt).mono ?_
        rintro e w5 ⟨he, nd, hw5⟩
        have HB5 := Aside0.mk (show Both w w5 g h q t r by rw [hw5]; exact HB4.out.drewN nd)
        have e2 : e = .returned (.int .i64 (t.oldest y)) := by rw [like_oldest HB4.out.like]; exact he
        subst e2
        clear he
        generalize t.oldest y = v1
        clear HB4 hw5
        go_wp2_with fail
        refine (reads_calls' g t y _ HB5.out.tb).mono ?_
        rintro e w6 ⟨rfl, n6, hw6⟩
        have HB6 := Aside0.mk (show Both w w6 g h q t r by rw [hw6]; exact HB5.out.drewN n6)
        clear HB5 hw6
        go_wp2_with fail
        refine (ref_reads h q r.a r.b r.c r.d y _ HB6.out.rt).mono ?_
        rintro e w7 ⟨he, n7, hw7⟩
        have HB7 := Aside0.mk (show Both w w7 g h q t r by rw [hw7]; exact HB6.out.drewN n7)
        have e2 : e = .returned (.tuple #[.int .i64 (t.reads y).1, .bool (t.reads y).2]) := by rw [like_reads HB6.out.like]; exact he
        subst e2
        clear he
        generalize (t.reads y).1 = u1
        generalize (t.reads y).2 = u2
        clear HB6 hw7
        cases u2
        all_goals
          go_wp2_with fail
          refine (live_calls g t.a.1 t.b.1 t.c.1 t.d.1 t.a.2 t.b.2 t.c.2 t.d.2 _ HB7.out.tb).mono ?_
          rintro e w8 ⟨v, ys, rfl, hp, hs, ho, hb⟩
          have HB8 := Aside0.mk (HB7.out.quiet hb)
          obtain ⟨l1, l2, l3⟩ := live_law HB8.out.like hp hs
          have L3 := Aside0.mk l3
          clear hp hs hb HB7 l3
          have HO := Aside0.mk ho
          obtain ⟨A2, cp, rfl⟩ := own_slice ho
          clear ho
          have L1 := Aside0.mk l1
          clear l1
          go_wp2_with fail
          refine (ref_count h q r _ HB8.out.rt).mono ?_
          rintro e w9 ⟨he, n9, hw9⟩
          have e2 : e = .returned (.int .i64 ys.length) := by rw [L1.out]; exact he
          subst e2
          clear he
          have HB9 := Aside0.mk (show Both w w9 g h q t r by rw [hw9]; exact HB8.out.drewN n9)
          have HO9 := Aside0.mk (show w9.ownsRow _ 3 1 (.slice A2 ys.length cp) ys.length (ints ys) by rw [hw9]; exact HO.out)
          clear HB8 HO hw9
          go_wp2_with fail
          go_loopg [16] ys.length (fun kx v16 wx => ∃ k : Nat, v16 = .int .i64 k ∧ k ≤ ys.length ∧ ys.length - k ≤ kx ∧ Aside0 (Both w wx g h q t r) ∧ Aside0 (wx.ownsRow w7.heap.size 3 1 (.slice A2 ys.length cp) ys.length (ints ys)))
          case atStart => exact ⟨0, rfl, Nat.zero_le _, by omega, HB9, HO9⟩
          case round =>
            clear HB9 HO9
            obtain ⟨k, rfl, hkl, hkk, HB10, HO10⟩ := hrel
            by_cases hk : k < ys.length
            · have a1 : (k : Int) < (ys.length : Int) := by omega
              obtain ⟨g2, cap, hv, _⟩ := own_int_cell HO10.out rfl (by omega)
              injection hv with hA _ hcap
              subst hA
              subst hcap
              obtain ⟨l4, l5⟩ := L3.out k hk
              have TM := Aside0.mk (fun w ht => ref_times h q r ys[k] w ht)
              have CS := Aside0.mk (fun j hj => cnt_succ ys ys[k] j hj)
              have CL := Aside0.mk (fun j => cnt_le ys ys[k] j)
              have L4 := Aside0.mk l4
              have L5 := Aside0.mk l5
              clear l4 l5
              have CK := Aside0.mk (fun (w : World) (ho : w.ownsRow w7.heap.size 3 1 (.slice (some ⟨g2, 0, none⟩) ys.length cp) ys.length (ints ys)) => own_cell_at ho k hk)
              generalize ys[k] = xk at TM CS CL L4 L5 CK
              generalize r.times xk = mm at TM L4
              go_wp2_with fail
              go_loopg [17, 18] ys.length (fun ky v17 v18 wy => ∃ j : Nat, v18 = .int .i64 j ∧ v17 = .int .i64 (cnt ys xk j) ∧ j ≤ ys.length ∧ ys.length - j ≤ ky ∧ Aside0 (Both w wy g h q t r) ∧ Aside0 (wy.ownsRow w7.heap.size 3 1 (.slice (some ⟨g2, 0, none⟩) ys.length cp) ys.length (ints ys)))
              case atStart => exact ⟨0, rfl, rfl, Nat.zero_le _, by omega, HB10, HO10⟩
              case round =>
                clear HB10 HO10
                obtain ⟨j, rfl, rfl, hjl, hjk, HB11, HO11⟩ := hrel
                by_cases hj : j < ys.length
                · have a3 : (j : Int) < (ys.length : Int) := by omega
                  have cj := own_cell_at HO11.out j hj
                  have ck := CK.out _ HO11.out
                  have cs := CS.out j hj
                  obtain ⟨q1, q2⟩ := CL.out j
                  have CN := Aside0.mk cs
                  clear cs
                  generalize ys[j] = xj at cj CN
                  generalize cnt ys xk j = cc at CN q1 q2
                  by_cases hx : xj = xk
                  · subst hx
                    go_wp2_with fail
                    go_quiet (fail)
                    go_wp2_with fail
                    go_roundg (ys.length - (j + 1))
                    case measure => omega
                    case rel => exact ⟨j + 1, rfl, by rw [CN.out]; simp, by omega, Nat.le_refl _, Aside0.mk (HB11.out.drewN _), Aside0.mk (show World.ownsRow _ _ _ _ _ _ _ from HO11.out)⟩
                  · have e1 : (xj == xk) = false := beq_eq_false_iff_ne.mpr hx
                    go_wp2_with fail
                    go_quiet (fail)
                    go_wp2_with fail
                    go_roundg (ys.length - (j + 1))
                    case measure => omega
                    case rel => exact ⟨j + 1, rfl, by rw [CN.out]; simp [hx], by omega, Nat.le_refl _, Aside0.mk (HB11.out.drewN _), Aside0.mk (show World.ownsRow _ _ _ _ _ _ _ from HO11.out)⟩
                · have a3 : ¬ (j : Int) < (ys.length : Int) := by omega
                  obtain rfl : j = ys.length := by omega
                  have ck := CK.out _ HO11.out
                  rw [L4.out]
                  clear CS CL
                  by_cases hk0 : k = 0
                  · subst hk0
                    have d0 : decide ((0 : Int) < ((0 : Nat) : Int)) = false := by decide
                    have d1 : decide ((0 : Int) < 0) = false := by decide
                    go_wp2_with fail
                    go_quiet (first | (go_at_call 45; exact Calls.quiet_of (TM.out _ HB11.out.rt)))
                    go_wp2_with fail
                    go_roundg (ys.length - (0 + 1))
                    case measure => omega
                    case rel => exact ⟨0 + 1, rfl, by omega, Nat.le_refl _, Aside0.mk (HB11.out.drewN _), Aside0.mk (show World.ownsRow _ _ _ _ _ _ _ from HO11.out)⟩
                  · obtain ⟨m, rfl⟩ : ∃ m, k = m + 1 := ⟨k - 1, by omega⟩
                    have cm := own_cell_at HO11.out m (by omega)
                    have lm := L5.out (by omega)
                    simp only [Nat.add_sub_cancel] at lm
                    generalize ys[m]'(by omega) = xm at cm lm
                    have d0 : decide ((0 : Int) < ((m + 1 : Nat) : Int)) = true := decide_eq_true (by omega)
                    have d1 : decide ((0 : Int) < (m : Int) + 1) = true := decide_eq_true (by omega)
                    have d2 : decide (xk < xm) = false := decide_eq_false (by omega)
                    have e3 : (m : Int) + 1 < (ys.length : Int) := by omega
                    have e4 : (m : Int) < (ys.length : Int) := by omega
                    have e5 : (0 : Int) ≤ (m : Int) + 1 := by omega
                    have e6 : (0 : Int) ≤ (m : Int) := by omega
                    have ew : IntKind.i64.wrap (m : Int) = (m : Int) := wrap_i64 m (by omega)
                    have em : ((m : Int) + 1 - 1) = (m : Int) := by omega
                    go_wp2_with fail
                    go_quiet (first | (go_at_call 45; exact Calls.quiet_of (TM.out _ HB11.out.rt)))
                    go_wp2_with fail
                    go_roundg (ys.length - (m + 1 + 1))
                    case measure => omega
                    case rel => exact ⟨m + 1 + 1, rfl, by omega, Nat.le_refl _, Aside0.mk (HB11.out.drewN _), Aside0.mk (show World.ownsRow _ _ _ _ _ _ _ from HO11.out)⟩
            · have a1 : ¬ (k : Int) < (ys.length : Int) := by omega
              go_wp2_with fail
              go_roundg (l.length - (i + 1))
              case measure => omega
              case rel => exact ⟨i + 1, t, r, h, q, rfl, rfl, by omega, by omega, Nat.le_refl _, HB10⟩
    · have b3 : ((i : Int) < (l.length : Int) ∧ decide ((i : Int) < (l.length : Int)) = true ∧ ¬ (i : Int) < 60 ∧ decide ((i : Int) < 60) = false) ∨ (¬ (i : Int) < (l.length : Int) ∧ decide ((i : Int) < (l.length : Int)) = false) := by
        by_cases h1 : i < l.length
        · exact .inl ⟨by omega, decide_eq_true (by omega), by omega, decide_eq_false (by omega)⟩
        · exact .inr ⟨by omega, decide_eq_false (by omega)⟩
      rcases b3 with ⟨a1, b1, a2, b2⟩ | ⟨a1, b1⟩
      all_goals
        go_wp2_with fail
        go_ret
        exact ⟨rfl, HBo.out.bel⟩
end Go.Proofs.Ytjbkkmgkckopdaa.Rd
