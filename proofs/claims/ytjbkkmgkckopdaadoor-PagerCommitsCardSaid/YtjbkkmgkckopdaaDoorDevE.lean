/- The device: Write. -/
import Derived.Test.YtjbkkmgkckopdaaDoorDevD
import Derived.Deep.DeepCutAuto
import Derived.Deep.CutBlock
namespace Go.Proofs.YtjbkkmgkckopdaaDoor.Dv
open Go.RowKit Go.Proofs.YtjbkkmgkckopdaaDoorW.PrintWords Go.Proofs.YtjbkkmgkckopdaaDoorW.PrintLast Go.Proofs.YtjbkkmgkckopdaaDoorW.PrintMore Go.Proofs.YtjbkkmgkckopdaaDoor.Mem
set_option linter.unusedVariables false
set_option linter.unusedSimpArgs false
section
variable {ok : Nat → Prop} {g : Nat} {d : D} {y : Lay}
theorem DAt.found_run {w : World} (h : DAt w ok g d y) (W : World) (hW : W.heap[y.M]? = w.heap[y.M]?) (n : Nat) : (Instr.lookup 64 (.map (some y.M)) (.int .i64 (n : Int)) false).run Tryd.prog W = .ok (found y n) W := h.look_run W hW n
theorem step_keeps (d : D) : d.step.1.lasts = d.lasts ∧ d.step.1.waits = d.waits ∧ d.step.1.writes = d.writes := by
  unfold D.step
  (repeat' split) <;> exact ⟨rfl, rfl, rfl⟩
set_option maxHeartbeats 4000000 in
set_option maxRecDepth 1000000 in
theorem write_no1 (w : World) (h : DAt w ok g d y) (i : Int) (s : S) (hc : i < 0 ∨ (d.lasts.length : Int) ≤ i) : Calls Tryd.prog 12 #[.pointer (some ⟨g, 0, none⟩), .int .i64 i, .string s] w (Say (.int .i64 1) w) := by
  have HI := Aside0.mk (is_no w h i hc)
  clear h hc
  go_enter Tryd.func12, Tryd.ntmps12
  go_wp2_with fail
  refine HI.out.mono ?_
  rintro e w1 ⟨rfl, rfl⟩
  go_wp2_with fail
  go_ret
  exact ⟨rfl, rfl⟩
set_option maxHeartbeats 4000000 in
set_option maxRecDepth 1000000 in
theorem write_no2 (w : World) (h : DAt w ok g d y) (i : Int) (s : S) (h0 : 0 ≤ i) (h1 : i < (d.lasts.length : Int)) (hs : s.size ≠ 128) : Calls Tryd.prog 12 #[.pointer (some ⟨g, 0, none⟩), .int .i64 i, .string s] w (Say (.int .i64 1) w) := by
  have HI := Aside0.mk (is_yes w h i h0 h1)
  have b : ((s.size : Int) != 128) = true := bne_iff_ne.mpr (by omega)
  have b2 : ((s.size : Int) == 128) = false := beq_eq_false_iff_ne.mpr (by omega)
  clear h h0 h1
  go_enter Tryd.func12, Tryd.ntmps12
  go_wp2_with fail
  refine HI.out.mono ?_
  rintro e w1 ⟨rfl, rfl⟩
  go_wp2_with fail
  go_ret
  exact ⟨rfl, rfl⟩
set_option maxHeartbeats 4000000 in
set_option maxRecDepth 1000000 in
theorem write_no3 (w : World) (h : DAt w ok g d y) (i : Int) (s : S) (h0 : 0 ≤ i) (h1 : i < (d.lasts.length : Int)) (hs : s.size = 128) (hf : 0 ≤ d.fuse) (hf2 : d.fuse ≤ 9223372036854775807) (hs0 : 0 ≤ d.steps) (hs2 : d.steps ≤ 1000000000) (ho : d.step.2 = false) :
    Calls Tryd.prog 12 #[.pointer (some ⟨g, 0, none⟩), .int .i64 i, .string s] w (Does ok g d.step.1 (.int .i64 6) w) := by
  have HI := Aside0.mk (is_yes w h i h0 h1)
  have HS := Aside0.mk (step_calls w h hf hf2 hs0 hs2)
  rw [ho] at HS
  have b : ((s.size : Int) != 128) = false := by rw [hs]; rfl
  have b2 : ((s.size : Int) == 128) = true := by rw [hs]; rfl
  clear h h0 h1 hf hf2 hs0 hs2 hs ho
  go_enter Tryd.func12, Tryd.ntmps12
  go_wp2_with fail
  refine HI.out.mono ?_
  rintro e w1 ⟨rfl, rfl⟩
  go_wp2_with fail
  refine HS.out.mono ?_
  rintro e w2 ⟨rfl, hy, ht⟩
  have HY := Aside0.mk hy
  clear hy
  go_wp2_with fail
  go_ret
  exact ⟨rfl, HY.out, ht⟩
set_option maxHeartbeats 4000000 in
set_option maxRecDepth 1000000 in
theorem write_yes (w : World) (h : DAt w ok g d y) (n : Nat) (s : S) (h1 : n < d.lasts.length) (hs : s.size = 128) (hf : 0 ≤ d.fuse) (hf2 : d.fuse ≤ 9223372036854775807) (hs0 : 0 ≤ d.steps) (hs2 : d.steps ≤ 1000000000) (ho : d.step.2 = true)
    (hw0 : 0 ≤ d.writes) (hw2 : d.writes ≤ 1000000000) (hfew : (look d.waits n).length < 1000000) :
    Calls Tryd.prog 12 #[.pointer (some ⟨g, 0, none⟩), .int .i64 (n : Int), .string s] w (Does ok g { d.step.1 with waits := more d.step.1.waits n s, writes := d.step.1.writes + 1 } (.int .i64 0) w) := by
  have HI := Aside0.mk (is_yes w h n (by omega) (by omega))
  have HS := Aside0.mk (step_calls w h hf hf2 hs0 hs2)
  rw [ho] at HS
  have b : ((s.size : Int) != 128) = false := by rw [hs]; rfl
  have b2 : ((s.size : Int) == 128) = true := by rw [hs]; rfl
  obtain ⟨k1, k2, k3⟩ := step_keeps d
  have okg := h.okg
  rw [← k1] at h1
  rw [← k2] at hfew
  rw [← k3] at hw0 hw2
  clear h hf hf2 hs0 hs2 hs ho k1 k2 k3
  generalize d.step.1 = d1 at HS h1 hfew hw0 hw2
  go_enter Tryd.func12, Tryd.ntmps12
  go_wp2_with fail
  refine HI.out.mono ?_
  rintro e w1 ⟨rfl, rfl⟩
  go_wp2_with fail
  refine HS.out.mono ?_
  rintro e w1 ⟨rfl, ⟨y1, hy⟩, ht⟩
  have HY := Aside0.mk hy
  have HT := Aside0.mk ht
  clear hy ht HS HI
  go_upto_region 7 with fail
  go_cut [] (fun wc => Aside0 ((∃ y', DAt wc (fun k => (ok k ∨ w.heap.size ≤ k) ∨ w1.heap.size ≤ k) g { d1 with waits := more d1.waits n s } y') ∧ Turn (fun k => ok k ∨ w.heap.size ≤ k) w1 wc))
  case first =>
    have z1 := HY.out.z1
    have lM := blk_lt HY.out.map
    have lg := blk_lt HY.out.blk
    have kA := HY.out.found_run w1.drew rfl n
    have kB := HY.out.found_run ((w1.alloc (.cells #[.string s] 9)).drew) (show (w1.alloc (.cells #[.string s] 9)).heap[y1.M]? = _ from Below.heap_alloc _ _ _ lM) n
    have FO := Aside0.mk (HY.out.found_own n)
    have MO := Aside0.mk (fun w2 v1 => HY.out.more (w2 := w2) n h1 s v1)
    have HM := Aside0.mk (show IMap w1 y1.M (y1.es.map DEnt.ent) y1.clock from HY.out.map)
    have zl : ((w1.alloc (.cells #[.string s] 9)).drew).cell? ⟨g, 1, none⟩ = some (.map (some y1.M)) := (World.cell?_of_block (w := w1) (show (w1.alloc (.cells #[.string s] 9)).heap[g]? = _ from Below.heap_alloc _ _ _ lg)).trans z1
    have AF := Aside0.mk (show ∀ v1, after y1 n v1 = .map (ents (Mem.stored (y1.es.map DEnt.ent) y1.clock (n : Int) v1).1) (Mem.stored (y1.es.map DEnt.ent) y1.clock (n : Int) v1).2 from fun _ => rfl)
    generalize found y1 n = v at kA kB FO MO
    go_region_law (refine step_append_cells (w0 := w1) (W := w1.drew) 0 rfl (.tmp 34) (.tmp 36) 62 9 (.string ByteArray.empty) 1 16 rfl Tryd.underlying62 info9 rfl (by decide) (by decide) v _ _ [.string s] (by simp [Act.eval, Act.put]) (by simp [Act.eval, Act.put]) rfl (by simp [Value.oneCell']) FO.out.1 ⟨rfl, rfl, rfl, Nat.le_refl _, fun _ _ => rfl⟩ (Nat.zero_le _) (by omega) ?_; intro v1 w2 hown hb hg hat; have hM2 : IMap w2 y1.M (y1.es.map DEnt.ent) y1.clock := (hg.block y1.M lM (fun e => (FO.out.2 _ e.symm).2.2.2.2 rfl)).trans HM.out; have hmu := run_mapUpdate (P := Tryd.prog) hM2 Tryd.underlying64 Tryd.underlying3 (n : Int) v1; rw [← AF.out v1] at hmu; have z2 : w2.cell? ⟨g, 1, none⟩ = some (.map (some y1.M)) := hg.cell z1 (fun e => (FO.out.2 _ e.symm).2.2.1 rfl); have OW := Aside0.mk hown; have HG := Aside0.mk hg; have HA := Aside0.mk hat; clear hown hb hg hat hM2)
    all_goals
      go_wp2_with fail
      go_meet
      case rel =>
        have := MO.out w2 v1 (by have := OW.out; rw [show pw_strs (look d1.waits n ++ [s]) = pw_strs (look d1.waits n) ++ [.string s] by simp [pw_strs]]; exact this) ⟨HG.out.os, HG.out.tape, HG.out.output, HG.out.size, HG.out.block⟩ HA.out hfew
        exact Aside0.mk this
  case rest =>
    obtain ⟨⟨y2, hy2⟩, ht2⟩ := hcut.out
    have z5 := hy2.z5
    have f5 := hy2.fz 5
    have HY2 := Aside0.mk hy2
    have HT2 := Aside0.mk ht2
    clear hy2 ht2 hcut
    have okg2 : ok g ∨ w.heap.size ≤ g := .inl okg
    have D2 := Aside0.mk (HY2.out.put 5 (.int .i64 (d1.writes + 1)) { d1 with waits := more d1.waits n s, writes := d1.writes + 1 } rfl rfl rfl)
    have hsz := HT.out.size
    go_wp2_with fail
    go_ret
    refine ⟨rfl, ⟨y2, D2.out.move (fun _ _ _ => rfl) (fun k hk _ => ?_)⟩, HT.out.trans (HT2.out.set (.inl okg2) _) (fun i hi h => ?_)⟩
    · rcases hk with h | h
      · exact h
      · exact .inr (by omega)
    · rcases h with h | h
      · exact h
      · omega
/-- Write, whatever the sector and the bytes. -/
theorem write_calls (w : World) (h : DAt w ok g d y) (i : Int) (s : S) (hf : 0 ≤ d.fuse) (hf2 : d.fuse ≤ 9223372036854775807) (hs0 : 0 ≤ d.steps) (hs2 : d.steps ≤ 1000000000)
    (hw0 : 0 ≤ d.writes) (hw2 : d.writes ≤ 1000000000) (hfew : ∀ n, (look d.waits n).length < 1000000) :
    Calls Tryd.prog 12 #[.pointer (some ⟨g, 0, none⟩), .int .i64 i, .string s] w (Does ok g (d.write i s).1 (.int .i64 (d.write i s).2) w) := by
  by_cases hc : i < 0 ∨ (d.lasts.length : Int) ≤ i
  · have e : d.write i s = (d, 1) := by
      unfold D.write
      rw [if_pos]
      rcases hc with hc | hc
      · exact .inl hc
      · exact .inr (.inl hc)
    rw [e]
    refine (write_no1 w h i s hc).mono ?_
    rintro e w1 ⟨rfl, rfl⟩
    exact Does.of rfl rfl rfl h (Turn.refl _ _)
  · by_cases hs : s.size = 128
    · obtain ⟨n, rfl⟩ := Int.eq_ofNat_of_zero_le (show 0 ≤ i by omega)
      cases ho : d.step.2
      · have e : d.write n s = (d.step.1, 6) := by
          unfold D.write
          rw [if_neg (by omega), if_pos ho]
        rw [e]
        exact write_no3 w h n s (by omega) (by omega) hs hf hf2 hs0 hs2 ho
      · have e : d.write n s = ({ d.step.1 with waits := more d.step.1.waits n s, writes := d.step.1.writes + 1 }, 0) := by
          unfold D.write
          rw [if_neg (by omega), if_neg (by rw [ho]; decide)]
          rfl
        rw [e]
        exact write_yes w h n s (by omega) hs hf hf2 hs0 hs2 ho hw0 hw2 (hfew n)
    · have e : d.write i s = (d, 1) := by
        unfold D.write
        rw [if_pos (.inr (.inr hs))]
      rw [e]
      refine (write_no2 w h i s (by omega) (by omega) hs).mono ?_
      rintro e w1 ⟨rfl, rfl⟩
      exact Does.of rfl rfl rfl h (Turn.refl _ _)
end
end Go.Proofs.YtjbkkmgkckopdaaDoor.Dv
