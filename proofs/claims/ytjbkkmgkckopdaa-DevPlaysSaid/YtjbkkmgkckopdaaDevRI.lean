/- DevPlays: the walk. -/
import Derived.Test.YtjbkkmgkckopdaaDevRH
import Derived.Test.YtjbkkmgkckopdaaDevR
import Derived.Deep.RegionHeld3
namespace Go.Proofs.Ytjbkkmgkckopdaa.Dv
open Go.RowKit Go.Proofs.YtjbkkmgkckopdaaW.PrintWords Go.Proofs.YtjbkkmgkckopdaaW.PrintLast Go.Proofs.YtjbkkmgkckopdaaW.PrintMore Go.Proofs.Ytjbkkmgkckopdaa.Mem
set_option linter.unusedVariables false
set_option linter.unusedSimpArgs false
theorem held_mono {P : Program} {md : Region.Mode} {ops : Array Oper} {Q : Exit → Act → World → Prop} {S S2 : World → Prop} (hs : ∀ w, S2 w → S w) : ∀ (fuel : Nat) (listed : Array Bool) (a : Act) (w : World), wpAnyH P md ops Q S2 fuel listed a w → wpAnyH P md ops Q S fuel listed a w
  | 0, _, _, _, h => h
  | fuel + 1, _, _, _, h => ⟨h.1, fun i hi => wpOp_mono (fun a' w' h' => ⟨hs w' h'.1, held_mono hs fuel _ a' w' h'.2⟩) (h.2 i hi)⟩
/-- Within a region what is held may become more. -/
theorem held_more {P : Program} {md : Region.Mode} {ops : Array Oper} {Q : Exit → Act → World → Prop} {S : World → Prop} (S2 : World → Prop) {fuel : Nat} {listed : Array Bool} {K : Act → World → Prop} (hs : ∀ w, S2 w → S w)
    (hK : Shut (∀ a w, S w → (S w → wpAnyH P md ops Q S fuel listed a w) → K a w)) :
    Shut (∀ a w, S w → (S w → wpAnyH P md ops Q S fuel listed a w) → K a w) = Shut (∀ a w, S2 w → (S2 w → wpAnyH P md ops Q S2 fuel listed a w) → K a w) :=
  propext ⟨fun h a w h2 hW => h.out a w (hs w h2) (fun _ => held_mono hs _ _ _ _ (hW h2)), fun _ => hK⟩
set_option maxHeartbeats 8000000 in
set_option maxRecDepth 1000000 in
theorem plays_no (sectors : Int) (hn : sectors < 1 ∨ 2048 < sectors) (v : Value) (w : World) : Calls Try.prog 11 #[.int .i64 sectors, v] w (Tell (.bool true) w) := by
  have HA := Aside0.mk awake_calls
  have HN := Aside0.mk (new_no sectors hn)
  have HE := Aside0.mk (enew_no sectors hn)
  have HZ := Aside0.mk size_nil
  clear hn
  go_enter Try.func11, Try.ntmps11
  go_wp2_with fail
  refine (HA.out _).mono ?_
  rintro e w1 ⟨rfl, hb⟩
  have HB := Aside0.mk hb
  clear hb
  go_wp2_with fail
  refine (HN.out _).mono ?_
  rintro e w2 ⟨rfl, rfl⟩
  go_wp2_with fail
  refine (HE.out _).mono ?_
  rintro e w2 ⟨rfl, rfl⟩
  go_wp2_with fail
  refine (HZ.out _).mono ?_
  rintro e w2 ⟨rfl, rfl⟩
  go_wp2_with fail
  go_ret
  exact ⟨rfl, HB.out⟩
set_option maxHeartbeats 8000000 in
set_option maxRecDepth 1000000 in
theorem plays_many (n : Nat) (h1 : 20 < n) (hn : n ≤ 2048) (v : Value) (w : World) : Calls Try.prog 11 #[.int .i64 (n : Int), v] w (Tell (.bool true) w) := by
  have HA := Aside0.mk awake_calls
  have HN := Aside0.mk (fun W hb => new_dev n (by omega) hn (w0 := w) (w := W) hb)
  have a1 : (20 : Int) < (n : Int) := by omega
  have a2 : decide ((20 : Int) < (n : Int)) = true := decide_eq_true a1
  go_enter Try.func11, Try.ntmps11
  go_wp2_with fail
  refine (HA.out _).mono ?_
  rintro e w1 ⟨rfl, hb⟩
  go_wp2_with fail
  refine (HN.out _ hb).mono ?_
  rintro e w2 ⟨g, rfl, hd⟩
  have HE := Aside0.mk (both_new (by omega) hn hd)
  clear hd hb
  go_wp2_with fail
  refine HE.out.mono ?_
  rintro e w3 ⟨ge, rfl, hbo⟩
  have HZ := Aside0.mk hbo.dev.size
  rw [show (Dv.fresh n).lasts.length = n by simp [Dv.fresh]] at HZ
  have HB := Aside0.mk hbo.below
  clear hbo
  go_wp2_with fail
  refine HZ.out.mono ?_
  rintro e w4 ⟨rfl, rfl⟩
  go_wp2_with fail
  go_ret
  exact ⟨rfl, HB.out⟩
set_option maxHeartbeats 8000000 in
set_option maxRecDepth 1000000 in
theorem plays_few (n : Nat) (h1 : 1 ≤ n) (hn : n ≤ 20) (q : Option Addr) (cap : Nat) (l : List Act3) (w : World) (hA : ActsAt w q l) (hl : l.length ≤ 9223372036854775807) : Calls Try.prog 11 #[.int .i64 (n : Int), .slice q l.length cap] w (Tell (.bool true) w) := by
  have HA := Aside0.mk awake_calls
  have HN := Aside0.mk (fun W hb => new_dev n (by omega) (by omega) (w0 := w) (w := W) hb)
  have HL := Aside0.mk hA
  clear hA
  have a1 : ¬ (20 : Int) < (n : Int) := by omega
  have a2 : decide ((20 : Int) < (n : Int)) = false := decide_eq_false a1
  go_enter Try.func11, Try.ntmps11
  go_wp2_with fail
  refine (HA.out _).mono ?_
  rintro e w1 ⟨rfl, hb⟩
  go_wp2_with fail
  refine (HN.out _ hb).mono ?_
  rintro e w2 ⟨g, rfl, hd⟩
  have HE := Aside0.mk (both_new (by omega) (by omega) hd)
  clear hd hb
  go_wp2_with fail
  refine HE.out.mono ?_
  rintro e w3 ⟨ge, rfl, hbo⟩
  have HBo := Aside0.mk hbo
  have HS := Aside0.mk (sim_fresh n)
  have HBd := Aside0.mk (Bd.fresh n)
  have HLn := Aside0.mk (show (Dv.fresh n).lasts.length = n by simp [Dv.fresh])
  have HRl := Aside0.mk (show (efresh n).row.length ≤ 0 from Nat.le_refl _)
  clear hbo HE HN HA
  go_wp2_with fail
  go_loopg [9] (l.length) (fun kx v9 wr => ∃ (k : Nat) (d : D) (r : E), v9 = .int .i64 k ∧ k ≤ l.length ∧ k ≤ 60 ∧ l.length - k ≤ kx ∧ Aside0 (Both w wr g d ge r) ∧ Aside0 (Sim d r) ∧ Aside0 (Bd d k) ∧ Aside0 (d.lasts.length = n) ∧ Aside0 (r.row.length ≤ k))
  case atStart => exact ⟨0, _, _, rfl, Nat.zero_le _, by omega, by omega, HBo, HS, HBd, HLn, HRl⟩
  case round =>
    clear HBo HS HBd HLn HRl
    obtain ⟨k, d, r, rfl, hkl, hk60, hkk, HBo, HS, HBd, HLn, HRl⟩ := hrel
    by_cases hgo : k < l.length ∧ k < 60
    · obtain ⟨h1', h2⟩ := hgo
      have b1 : (k : Int) < (l.length : Int) := by omega
      have b2 : (k : Int) < 60 := by omega
      have b3 : (0 : Int) ≤ (k : Int) := by omega
      have b4 : decide ((k : Int) < (l.length : Int)) = true := decide_eq_true b1
      have b5 : decide ((k : Int) < 60) = true := decide_eq_true b2
      have w9 : IntKind.i64.wrap ((k : Int) + 1) = (k : Int) + 1 := by rw [IntKind.wrap_i64]; omega
      obtain ⟨ad, rfl, hact⟩ := HL.out k h1'
      have HD := Aside0.mk (fun W (hW : Both w W g d ge r) => hW.does l[k].a l[k].p l[k].pc hact.1 HBd.out (by omega))
      have HM := Aside0.mk (fun W (hW : Both w W g (d.act l[k].a).1 ge r) => hW.means l[k].a l[k].p l[k].pc hact.1 (EBd.of HS.out HBd.out HRl.out) (by omega))
      have HS2 := Aside0.mk (sim_act HS.out l[k].a)
      have HBd2 := Aside0.mk (HBd.out.act l[k].a hact.1.2.1)
      have HLn2 := Aside0.mk ((len_act d l[k].a).trans HLn.out)
      have HRl2 := Aside0.mk (Nat.le_trans (row_act r l[k].a) (Nat.succ_le_succ HRl.out))
      have H6 := Aside0.mk (fun W hb => cells6 (W := W) hact hb)
      generalize l[k].a = a at *
      generalize l[k].p = ap at *
      generalize l[k].pc = apc at *
      unfold A.cells at HD HM
      obtain ⟨c0, c1, c2, c3, c4, c5⟩ := H6.out wr HBo.out.below
      have he2 := HS2.out.2
      generalize hx1 : (d.act a).1 = d' at *
      generalize hx2 : (d.act a).2 = e' at *
      generalize hx3 : (r.act a).1 = r' at *
      generalize hx4 : (r.act a).2 = f' at *
      subst he2
      clear hx1 hx2 hx3 hx4 hact h1'
      have hxx : ((!r'.off) == r'.off) = false := by cases r'.off <;> rfl
      go_upto_region 12 with fail
      go_cut [115] (fun v115 wc => v115 = .bool false ∧ Aside0 (Both w wc g d' ge r'))
      case first =>
        go_region_held3 (fun w' => w'.cell? (ad.add (k * 6)) = some (.int .i64 a.kind) ∧ w'.cell? ⟨(ad.add (k * 6)).block, (ad.add (k * 6)).off + 1, none⟩ = some (.int .i64 a.i) ∧ w'.cell? ⟨(ad.add (k * 6)).block, (ad.add (k * 6)).off + 2, none⟩ = some (.int .i64 a.n) ∧ w'.cell? ⟨(ad.add (k * 6)).block, (ad.add (k * 6)).off + 3, none⟩ = some (.int .u8 a.c) ∧ w'.cell? ⟨(ad.add (k * 6)).block, (ad.add (k * 6)).off + 4, none⟩ = some (.string a.text) ∧ w'.cell? ⟨(ad.add (k * 6)).block, (ad.add (k * 6)).off + 5, none⟩ = some (.slice ap a.picks.length apc)) (first | exact ⟨c0, c1, c2, c3, c4, c5⟩ | exact ⟨p0, p1, p2, p3, p4, p5⟩ | exact ⟨⟨q0, q1, q2, q3, q4, q5⟩, z2, z4, z5⟩) ((first
          | (go_at_call 50; (with_reducible refine (HD.out _ (HBo.out.quiet ((Below.refl _ _).drew))).mono ?_); rintro e w6 ⟨rfl, hb6⟩; obtain ⟨p0, p1, p2, p3, p4, p5⟩ := H6.out w6 hb6.below)
          | (go_at_call 63; (with_reducible refine (HM.out _ hb6).mono ?_); rintro e w7 ⟨rfl, hb7⟩; obtain ⟨q0, q1, q2, q3, q4, q5⟩ := H6.out w7 hb7.below; obtain ⟨Lr, cr, z0, z2, z4, z5, zs⟩ := hb7.cells; have HON := hb7.dev.on; have HST := hb7.dev.steps; have HWR := hb7.dev.writes; have HSZ := hb7.dev.size; rw [HS2.out.1.off] at HON; rw [HS2.out.1.steps] at HST; rw [HS2.out.1.writes] at HWR; rw [HLn2.out] at HSZ; rewrite [held_more (fun w' => (w'.cell? (ad.add (k * 6)) = some (.int .i64 a.kind) ∧ w'.cell? ⟨(ad.add (k * 6)).block, (ad.add (k * 6)).off + 1, none⟩ = some (.int .i64 a.i) ∧ w'.cell? ⟨(ad.add (k * 6)).block, (ad.add (k * 6)).off + 2, none⟩ = some (.int .i64 a.n) ∧ w'.cell? ⟨(ad.add (k * 6)).block, (ad.add (k * 6)).off + 3, none⟩ = some (.int .u8 a.c) ∧ w'.cell? ⟨(ad.add (k * 6)).block, (ad.add (k * 6)).off + 4, none⟩ = some (.string a.text) ∧ w'.cell? ⟨(ad.add (k * 6)).block, (ad.add (k * 6)).off + 5, none⟩ = some (.slice ap a.picks.length apc)) ∧ w'.cell? ⟨ge, 2, none⟩ = some (.bool r'.off) ∧ w'.cell? ⟨ge, 4, none⟩ = some (.int .i64 r'.count) ∧ w'.cell? ⟨ge, 5, none⟩ = some (.int .i64 r'.wrote)) (fun _ h => h.1) ‹Shut _›] at *)
          | (go_at_call 49; (with_reducible refine HON.mono ?_); rintro e w8 ⟨rfl, rfl⟩)
          | (go_at_call 60; (with_reducible refine HST.mono ?_); rintro e w8 ⟨rfl, rfl⟩)
          | (go_at_call 57; (with_reducible refine HWR.mono ?_); rintro e w8 ⟨rfl, rfl⟩)
          | (go_at_call 62; (with_reducible refine HSZ.mono ?_); rintro e w8 ⟨rfl, rfl⟩)))
        all_goals (go_wp2_with fail; go_meet; case rel => exact ⟨rfl, Aside0.mk hb7⟩)
      case rest =>
        obtain ⟨hv, HB7⟩ := hcut
        subst hv
        have HB7 := HB7
        clear HD HM c0 c1 c2 c3 c4 c5 H6 HBo hxx HBd HRl HS HLn
        go_wp2_with fail
        go_loopg [10] (n + 2) (fun kx v10 wx => ∃ m : Nat, v10 = .int .i64 ((m : Int) - 1) ∧ m ≤ n + 2 ∧ n + 2 - m ≤ kx ∧ Aside0 (Both w wx g d' ge r'))
        case atStart => exact ⟨0, rfl, by omega, by omega, HB7⟩
        case round =>
          clear HB7
          obtain ⟨m, rfl, hm, hmk, HB7⟩ := hrel
          by_cases hgo2 : m ≤ n + 1
          · have d1 : (m : Int) - 1 ≤ (n : Int) := by omega
            have d2 : decide ((m : Int) - 1 ≤ (n : Int)) = true := decide_eq_true d1
            have d3 : IntKind.i64.wrap ((m : Int) - 1 + 1) = (m : Int) + 1 - 1 := by rw [IntKind.wrap_i64]; omega
            have HR1 := Aside0.mk (HB7.out.dev.read ((m : Int) - 1))
            have HR2 := Aside0.mk (HB7.out.eread ((m : Int) - 1))
            have HW1 := Aside0.mk (HB7.out.dev.waits ((m : Int) - 1))
            have HW2 := Aside0.mk (HB7.out.ewaits ((m : Int) - 1))
            rw [sim_read HS2.out.1] at HR1
            rw [sim_wait HS2.out.1] at HW1
            have HQ := Aside0.mk (fun nn => (HB7.out.quiet (w' := wr.drewN nn) ⟨rfl, rfl, rfl, Nat.le_refl _, fun _ _ => rfl⟩).dev.lasts ((m : Int) - 1))
            generalize (r'.read ((m : Int) - 1)).1 = s1 at HR1 HR2
            generalize (r'.read ((m : Int) - 1)).2 = s2 at HR1 HR2
            generalize r'.wait ((m : Int) - 1) = s3 at HW1 HW2
            go_wp2_with fail
            refine HR1.out.mono ?_
            rintro e w8 ⟨rfl, rfl⟩
            go_wp2_with fail
            refine HR2.out.mono ?_
            rintro e w8 ⟨rfl, rfl⟩
            go_wp2_with fail
            refine HW1.out.mono ?_
            rintro e w8 ⟨rfl, rfl⟩
            go_wp2_with fail
            refine HW2.out.mono ?_
            rintro e w8 ⟨rfl, rfl⟩
            clear HR1 HR2 HW1 HW2
            by_cases hin : 1 ≤ m ∧ m ≤ n
            · obtain ⟨j, rfl⟩ : ∃ j, m = j + 1 := ⟨m - 1, by omega⟩
              have hj : ((j + 1 : Nat) : Int) - 1 = (j : Int) := by omega
              rw [hj] at d1 d2 d3 HQ ⊢
              have hjl : j < r'.sector.length := by rw [← HS2.out.1.lasts]; rw [HLn2.out]; omega
              obtain ⟨Lr, cr, z0, z2, z4, z5, zs⟩ := HB7.out.cells
              have zj := zs j hjl
              have hla := sim_last HS2.out.1 j hjl
              rw [List.getD_eq_getElem?_getD, List.getElem?_eq_getElem hjl] at hla
              simp only [Option.getD_some] at hla
              rw [← hla] at zj
              have e1 : (0 : Int) ≤ (j : Int) := by omega
              have e2 : (j : Int) < (n : Int) := by omega
              have e3 : ¬ (j : Int) < 0 := by omega
              have e4 : ¬ (n : Int) ≤ (j : Int) := by omega
              have e5 : decide ((0 : Int) ≤ (j : Int)) = true := decide_eq_true e1
              have e6 : decide ((j : Int) < (n : Int)) = true := decide_eq_true e2
              have e7 : decide ((j : Int) < 0) = false := decide_eq_false e3
              have e8 : decide ((n : Int) ≤ (j : Int)) = false := decide_eq_false e4
              have e9 : (j : Int) < (r'.sector.length : Int) := by omega
              have m1 : decide (n ≤ j) = false := decide_eq_false (by omega)
              have m2 : decide (j < n) = true := decide_eq_true (by omega)
              generalize d'.last (j : Int) = s5 at HQ zj
              clear zs hla hjl hin
              go_wp2_with fail
              go_big_quiet ((go_at_call 52; exact Calls.quiet_of_same ((HQ.out _).mono fun e w' h => ⟨h.1, h.2.symm⟩)))
              go_wp2_with fail
              go_roundg (n + 2 - (j + 1 + 1))
              case measure => omega
              case rel => exact ⟨j + 1 + 1, by simp <;> omega, by omega, Nat.le_refl _, Aside0.mk (HB7.out.quiet ⟨rfl, rfl, rfl, Nat.le_refl _, fun _ _ => rfl⟩)⟩
            · have hla : d'.last ((m : Int) - 1) = ByteArray.empty := by
                unfold D.last
                rw [if_pos (by rw [HLn2.out]; omega)]
              rw [hla] at HQ
              by_cases h0 : m = 0
              · subst h0
                have hj : ((0 : Nat) : Int) - 1 = -1 := rfl
                rw [hj] at d1 d2 d3 HQ ⊢
                clear hla hin
                go_wp2_with fail
                go_quiet ((go_at_call 52; exact Calls.quiet_of_same ((HQ.out _).mono fun e w' h => ⟨h.1, h.2.symm⟩)))
                go_wp2_with fail
                go_roundg (n + 2 - 1)
                case measure => omega
                case rel => exact ⟨1, by simp <;> omega, by omega, Nat.le_refl _, Aside0.mk (HB7.out.quiet ⟨rfl, rfl, rfl, Nat.le_refl _, fun _ _ => rfl⟩)⟩
              · obtain rfl : m = n + 1 := by omega
                have hj : ((n + 1 : Nat) : Int) - 1 = (n : Int) := by omega
                rw [hj] at d1 d2 d3 HQ ⊢
                have m1 : decide (n ≤ n) = true := decide_eq_true (Nat.le_refl _)
                have m2 : decide (n < n) = false := decide_eq_false (Nat.lt_irrefl _)
                have m3 : ¬ (n : Int) < 0 := by omega
                have m4 : decide ((n : Int) < 0) = false := decide_eq_false m3
                clear hla hin h0 d1
                go_wp2_with fail
                go_quiet ((go_at_call 52; exact Calls.quiet_of_same ((HQ.out _).mono fun e w' h => ⟨h.1, h.2.symm⟩)))
                go_wp2_with fail
                go_roundg (n + 2 - (n + 1 + 1))
                case measure => omega
                case rel => exact ⟨n + 1 + 1, by simp <;> omega, by omega, Nat.le_refl _, Aside0.mk (HB7.out.quiet ⟨rfl, rfl, rfl, Nat.le_refl _, fun _ _ => rfl⟩)⟩
          · have d1 : ¬ (m : Int) - 1 ≤ (n : Int) := by omega
            have d2 : decide ((m : Int) - 1 ≤ (n : Int)) = false := decide_eq_false d1
            clear hgo2
            go_wp2_with fail
            go_roundg (l.length - (k + 1))
            case measure => omega
            case rel => exact ⟨k + 1, d', r', rfl, by omega, by omega, Nat.le_refl _, HB7, Aside0.mk HS2.out.1, HBd2, HLn2, HRl2⟩
    · have b3 : ((k : Int) < (l.length : Int) ∧ decide ((k : Int) < (l.length : Int)) = true ∧ ¬ (k : Int) < 60 ∧ decide ((k : Int) < 60) = false) ∨ (¬ (k : Int) < (l.length : Int) ∧ decide ((k : Int) < (l.length : Int)) = false) := by
        by_cases h1 : k < l.length
        · exact .inl ⟨by omega, decide_eq_true (by omega), by omega, decide_eq_false (by omega)⟩
        · exact .inr ⟨by omega, decide_eq_false (by omega)⟩
      have HBl := Aside0.mk HBo.out.below
      clear hgo
      rcases b3 with ⟨c1, c2, c3, c4⟩ | ⟨c1, c2⟩
      all_goals
        go_wp2_with fail
        go_ret
        exact ⟨rfl, HBl.out⟩
end Go.Proofs.Ytjbkkmgkckopdaa.Dv
