/- PagerOpens: the walk. -/
import Derived.Test.YtjbkkmgkckopdaaDoorFormats
import Derived.Deep.RegionHeld3
namespace Go.Proofs.YtjbkkmgkckopdaaDoor.Pg
open Go.RowKit Go.Proofs.YtjbkkmgkckopdaaDoorW.PrintWords Go.Proofs.YtjbkkmgkckopdaaDoorW.PrintLast Go.Proofs.YtjbkkmgkckopdaaDoorW.PrintMore Go.Proofs.YtjbkkmgkckopdaaDoor.Num Go.Proofs.YtjbkkmgkckopdaaDoor.Mem Go.Proofs.YtjbkkmgkckopdaaDoor.Dv
set_option linter.unusedVariables false
set_option linter.unusedSimpArgs false
theorem write_any {d : D} (ho : d.off = false) (hf : d.fuse = 0) (i : Int) (s : S) : (d.write i s).1.off = false ∧ (d.write i s).1.fuse = 0 ∧ (d.write i s).1.lasts = d.lasts := by
  unfold D.write
  split
  · exact ⟨ho, hf, rfl⟩
  · rw [step_on ho (by rw [hf]; omega)]
    exact ⟨ho, by show max 0 (d.fuse - 1) = 0; rw [hf]; rfl, rfl⟩
theorem read_any {d : D} (ho : d.off = false) (i : Nat) (hi : i < d.lasts.length) : ∃ s, d.read (i : Int) = (s, 0) := by
  unfold D.read
  rw [if_neg (by omega), if_neg (by rw [ho]; exact Bool.false_ne_true)]
  exact ⟨_, rfl⟩
/-- The device with two sectors that were written, or not. -/
theorem two_written (a b : S) : ∃ d1 d2 s t, ((Dv.fresh 24).write 0 a).1 = d1 ∧ (d1.write 1 b).1 = d2 ∧ d2.read 0 = (s, 0) ∧ d2.read 1 = (t, 0) ∧ d2.lasts.length = 24 := by
  obtain ⟨a1, a2, a3⟩ := write_any (d := Dv.fresh 24) rfl rfl 0 a
  obtain ⟨b1, b2, b3⟩ := write_any a1 a2 1 b
  have hl : (((Dv.fresh 24).write 0 a).1.write 1 b).1.lasts.length = 24 := by rw [b3, a3]; simp [Dv.fresh]
  obtain ⟨s, hs⟩ := read_any b1 0 (by omega)
  obtain ⟨t, ht⟩ := read_any b1 1 (by omega)
  exact ⟨_, _, s, t, rfl, rfl, hs, ht, hl⟩
theorem opened_two {d : D} {s t : S} (h0 : d.read 0 = (s, 0)) (h1 : d.read 1 = (t, 0)) (hl : d.lasts.length = 24) :
    (newest crcSum s t = none ∧ opened crcSum d = (none, 4)) ∨ (∃ m k, newest crcSum s t = some (m, k) ∧ 6 < m.limit ∧ opened crcSum d = (none, 4)) ∨ (∃ m k p, newest crcSum s t = some (m, k) ∧ ¬ 6 < m.limit ∧ opened crcSum d = (some p, 0) ∧ p.cur = m ∧ p.shut = none) := by
  unfold opened
  rw [h0, h1, if_neg (fun h => h rfl), if_neg (fun h => h rfl)]
  dsimp only
  cases hn : newest crcSum s t with
  | none => exact .inl ⟨rfl, rfl⟩
  | some mk =>
    obtain ⟨m, k⟩ := mk
    dsimp only
    have h6 : ((d.lasts.length / 4 : Nat) : Int) = 6 := by rw [hl]; rfl
    rw [h6]
    by_cases hm : 6 < m.limit
    · rw [if_pos hm]
      exact .inr (.inl ⟨m, k, rfl, hm, rfl⟩)
    · rw [if_neg hm]
      exact .inr (.inr ⟨m, k, _, rfl, hm, rfl, rfl, rfl⟩)
section
variable (a b : S) (w : World)
set_option maxHeartbeats 2000000 in
set_option maxRecDepth 100000 in
theorem opens_calls (hr : RowAt w) : Calls Tryd.prog 4 #[.string a, .string b] w (Tell (.bool true) w) := by
  have HA := Aside0.mk (awake_calls w hr)
  have HN := Aside0.mk (fun W hb => show Calls Tryd.prog 8 #[.int .i64 24] W _ from new_dev 24 (by omega) (by omega) (w0 := w) (w := W) hb)
  obtain ⟨d1, d2, s, t, e1, e2, h0, h1, hl⟩ := two_written a b
  have hbd1 := (Bd.fresh 24).write 0 a
  rw [e1] at hbd1
  have hbd2 := hbd1.write 1 b
  rw [e2] at hbd2
  have W0 := Aside0.mk (fun W g (h : Dev w W g (Dv.fresh 24)) => h.write 0 a (Bd.fresh 24) (by omega))
  rw [e1] at W0
  have W1 := Aside0.mk (fun W g (h : Dev w W g d1) => h.write 1 b hbd1 (by omega))
  rw [e2] at W1
  have R0 := Aside0.mk (fun W g (h : Dev w W g d2) => h.read 0)
  have R1 := Aside0.mk (fun W g (h : Dev w W g d2) => h.read 1)
  rw [h0] at R0
  rw [h1] at R1
  have HNe := Aside0.mk (fun W (hb : Below w.heap.size w W) => newest_calls s t W (hr.below hb hr.pos))
  have HO := Aside0.mk (fun W g (h : Dev w W g d2) => open_dev h hr s h0)
  have HK := Aside0.mk (opened_two h0 h1 hl)
  generalize ((Dv.fresh 24).write 0 a).2 = r0 at W0
  generalize (d1.write 1 b).2 = r1 at W1
  clear hr e1 e2 h0 h1 hl hbd1 hbd2
  go_enter Tryd.func4, Tryd.ntmps4
  go_wp2_with fail
  refine HA.out.mono ?_
  rintro e w1 ⟨rfl, hb⟩
  go_wp2_with fail
  refine (HN.out _ hb).mono ?_
  rintro e w2 ⟨g, rfl, hd⟩
  have HD := Aside0.mk hd
  clear hd hb HA HN
  go_wp2_with fail
  refine (W0.out _ _ HD.out).mono ?_
  rintro e w3 ⟨rfl, hd⟩
  have HD3 := Aside0.mk hd
  clear hd HD W0
  go_wp2_with fail
  refine (W1.out _ _ HD3.out).mono ?_
  rintro e w4 ⟨rfl, hd⟩
  have HD4 := Aside0.mk hd
  clear hd HD3 W1
  go_wp2_with fail
  refine (R0.out _ _ HD4.out).mono ?_
  rintro e w5 ⟨rfl, rfl⟩
  go_wp2_with fail
  refine (R1.out _ _ HD4.out).mono ?_
  rintro e w5 ⟨rfl, rfl⟩
  have HNe2 := Aside0.mk (HNe.out w4 HD4.out.2)
  have hk := HK.out
  clear R0 R1 HNe HK
  rcases hk with ⟨hn, ho⟩ | ⟨m, k, hn, hm, ho⟩ | ⟨m, k, p, hn, hm, ho, hp1, hp2⟩
  · unfold newR at HNe2
    rw [hn] at HNe2
    rw [ho] at HO
    clear hn ho
    unfold New3 M.zero M.cells at HNe2
    dsimp only at HNe2
    go_wp2_with fail
    refine HNe2.out.mono ?_
    rintro e w6 ⟨rfl, hb⟩
    have HD6 := Aside0.mk ((HD4.out.later hb).later (below_alloc (Below.refl _ _) (.cells #[.int .i64 0, .int .i64 0, .int .i64 0, .int .i64 0, .int .i64 0] 32)))
    clear hb
    go_wp2_with fail
    refine (HO.out _ _ HD6.out).mono ?_
    rintro e w7 ⟨rfl, hb⟩
    have HB7 := Aside0.mk (HD6.out.later hb).2
    clear hb HD6
    go_wp2_with fail
    go_ret
    exact ⟨rfl, HB7.out⟩
  · unfold newR at HNe2
    rw [hn] at HNe2
    rw [ho] at HO
    clear hn ho
    obtain ⟨m1, m2, m3, m4, m5⟩ := m
    unfold New3 M.cells at HNe2
    dsimp only at HNe2 hm
    go_wp2_with fail
    refine HNe2.out.mono ?_
    rintro e w6 ⟨rfl, hb⟩
    have HD6 := Aside0.mk ((HD4.out.later hb).later (below_alloc (Below.refl _ _) (.cells #[.int .i64 m1, .int .i64 m2, .int .i64 m3, .int .i64 m4, .int .i64 m5] 32)))
    clear hb
    go_wp2_with fail
    refine (HO.out _ _ HD6.out).mono ?_
    rintro e w7 ⟨rfl, hb⟩
    have hx := blk_below (blk_new w6 (.cells #[.int .i64 m1, .int .i64 m2, .int .i64 m3, .int .i64 m4, .int .i64 m5] 32)) hb
    have c4 := (blk_cell hx 4).trans rfl
    have HB7 := Aside0.mk (HD6.out.later hb).2
    clear hb HD6 hx
    go_wp2_with fail
    go_ret
    exact ⟨rfl, HB7.out⟩
  · unfold newR at HNe2
    rw [hn] at HNe2
    rw [ho] at HO
    clear hn ho
    obtain ⟨m1, m2, m3, m4, m5⟩ := m
    unfold New3 M.cells at HNe2
    dsimp only at HNe2 hm
    go_wp2_with fail
    refine HNe2.out.mono ?_
    rintro e w6 ⟨rfl, hb⟩
    have HD6 := Aside0.mk ((HD4.out.later hb).later (below_alloc (Below.refl _ _) (.cells #[.int .i64 m1, .int .i64 m2, .int .i64 m3, .int .i64 m4, .int .i64 m5] 32)))
    clear hb
    go_wp2_with fail
    refine (HO.out _ _ HD6.out).mono ?_
    rintro e w7 ⟨gp, rfl, hb, hg, hp⟩
    have hx := blk_below (blk_new w6 (.cells #[.int .i64 m1, .int .i64 m2, .int .i64 m3, .int .i64 m4, .int .i64 m5] 32)) hb
    have HX := Aside0.mk hx
    have HP := Aside0.mk (PD.of_open HD6.out hp2 hb hg hp)
    have HM := Aside0.mk (HP.out.quiet (w' := w7.drew) (Below.refl _ _).drew).meta
    rw [hp1] at HM
    unfold M.cells at HM
    dsimp only at HM
    clear hb HD6 hg hp hp1 hp2
    have c0 := (blk_cell hx 0).trans rfl
    have c1 := (blk_cell hx 1).trans rfl
    have c2 := (blk_cell hx 2).trans rfl
    have c3 := (blk_cell hx 3).trans rfl
    have c4 := (blk_cell hx 4).trans rfl
    clear hx
    go_wp2_with fail
    go_region_held3 (fun w' => w'.cell? ⟨w6.heap.size, 0, none⟩ = some (.int .i64 m1) ∧ w'.cell? ⟨w6.heap.size, 1, none⟩ = some (.int .i64 m2) ∧ w'.cell? ⟨w6.heap.size, 2, none⟩ = some (.int .i64 m3) ∧ w'.cell? ⟨w6.heap.size, 3, none⟩ = some (.int .i64 m4) ∧ w'.cell? ⟨w6.heap.size, 4, none⟩ = some (.int .i64 m5)) (first | exact ⟨c0, c1, c2, c3, c4⟩ | exact ⟨p0, p1, p2, p3, p4⟩) ((first
      | (go_at_call 11; (with_reducible refine HM.out.mono ?_); rintro e w8 ⟨rfl, hb⟩; have hx8 := blk_below (blk_drew HX.out) hb; have p0 := (blk_cell hx8 0).trans rfl; have p1 := (blk_cell hx8 1).trans rfl; have p2 := (blk_cell hx8 2).trans rfl; have p3 := (blk_cell hx8 3).trans rfl; have p4 := (blk_cell hx8 4).trans rfl; have HB8 := Aside0.mk ((HP.out.quiet (w' := w7.drew) (Below.refl _ _).drew).quiet hb).below)))
    go_wp2_with fail
    go_ret
    exact ⟨rfl, HB8.out⟩
end
end Go.Proofs.YtjbkkmgkckopdaaDoor.Pg
