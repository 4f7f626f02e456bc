/- The meta of bytes; the newest of two. -/
import Derived.Test.YtjbkkmgkckopdaaDoorPack
namespace Go.Proofs.YtjbkkmgkckopdaaDoor.Pg
open Go.RowKit Go.Proofs.YtjbkkmgkckopdaaDoorW.PrintWords Go.Proofs.YtjbkkmgkckopdaaDoorW.PrintLast Go.Proofs.YtjbkkmgkckopdaaDoorW.PrintMore Go.Proofs.YtjbkkmgkckopdaaDoor.Num Go.Proofs.YtjbkkmgkckopdaaDoor.Mem
set_option linter.unusedVariables false
set_option linter.unusedSimpArgs false
theorem has_mark {l : List UInt8} : Lib.hasPrefix l mark = true ↔ l.take 8 = mark := by
  unfold Lib.hasPrefix
  rw [List.isPrefixOf_iff_prefix, List.prefix_iff_eq_take]
  exact ⟨fun h => h.symm, fun h => h.symm⟩
def unp (s : ByteArray) : M × Int := match unpack crcSum s with
  | some m => (m, 0)
  | none => (M.zero, 4)
def Unp (r : M × Int) (w : World) (e : Ending) (w' : World) : Prop := e = .returned (.tuple #[.agg r.1.cells, .int .i64 r.2]) ∧ Below w.heap.size w w'
set_option maxHeartbeats 2000000 in
set_option maxRecDepth 100000 in
theorem unpack_no1 (s : ByteArray) (hs : ¬ s.size = 128) (w : World) : Calls Tryd.prog 32 #[.string s] w (Unp (M.zero, 4) w) := by
  have a1 : ((s.size : Int) == 128) = false := beq_eq_false_iff_ne.mpr (by omega)
  go_enter Tryd.func32, Tryd.ntmps32
  go_wp2_with fail
  refine bodyPost_ret (results_list (rs := [.cell 2 32, .tmp 3]) rfl (by simp) (.cell w.heap.size 32 _ (0, 0) _ rfl (blk_new w _) Tryd.underlying32 rfl (by kernel_rfl) (.tmp .nil))) rfl ?_
  exact ⟨rfl, below_alloc (Below.refl _ _) _⟩
theorem put5_blk {W : World} {g : Nat} {t : TypeId} {a0 a1 a2 a3 a4 : Value} (h : W.heap[g]? = some (.cells #[a0, a1, a2, a3, a4] t (0, 0))) (c0 c1 c2 c3 c4 : Value) :
    (((((W.setCell ⟨g, 0, none⟩ c0).setCell ⟨g, 1, none⟩ c1).setCell ⟨g, 2, none⟩ c2).setCell ⟨g, 3, none⟩ c3).setCell ⟨g, 4, none⟩ c4).heap[g]? = some (.cells #[c0, c1, c2, c3, c4] t (0, 0)) :=
  blk_put (blk_put (blk_put (blk_put (blk_put h 0 c0 rfl) 1 c1 rfl) 2 c2 rfl) 3 c3 rfl) 4 c4 rfl
theorem put5_below {B : Nat} {w W : World} {g : Nat} (h : Below B w W) (hg : B ≤ g) (c0 c1 c2 c3 c4 : Value) :
    Below B w (((((W.setCell ⟨g, 0, none⟩ c0).setCell ⟨g, 1, none⟩ c1).setCell ⟨g, 2, none⟩ c2).setCell ⟨g, 3, none⟩ c3).setCell ⟨g, 4, none⟩ c4) :=
  ((((h.setCell hg _).setCell hg _).setCell hg _).setCell hg _).setCell hg _
theorem tl_ne {s t : ByteArray} (h : ¬ s = t) : (ByteArray.toList s == ByteArray.toList t) = false := by
  rw [ByteArray.toList_eq, ByteArray.toList_eq]
  exact beq_eq_false_iff_ne.mpr (fun e => h (Go.WideShapes.bytes_inj e))
set_option maxHeartbeats 2000000 in
set_option maxRecDepth 100000 in
theorem unpack_no2 (s : ByteArray) (hs : s.size = 128) (hp : Lib.hasPrefix s.data.toList mark = false) (w : World) : Calls Tryd.prog 32 #[.string s] w (Unp (M.zero, 4) w) := by
  have HP := Aside0.mk (fun W => Sh.strings_HasPrefix s markS W)
  rw [show markS.data.toList = mark from rfl, hp] at HP
  unfold markS at HP
  have a1 : (s.size : Int) = 128 := by omega
  clear hs
  go_enter Tryd.func32, Tryd.ntmps32
  go_wp2_with fail
  refine (HP.out _).mono ?_
  rintro e w1 ⟨rfl, rfl⟩
  go_wp2_with fail
  refine bodyPost_ret (results_list (rs := [.cell 2 32, .tmp 3]) rfl (by simp) (.cell w.heap.size 32 _ (0, 0) _ rfl (blk_new w _) Tryd.underlying32 rfl (by kernel_rfl) (.tmp .nil))) rfl ?_
  exact ⟨rfl, below_alloc (Below.refl _ _) _⟩
set_option maxHeartbeats 2000000 in
set_option maxRecDepth 100000 in
theorem unpack_go (s : ByteArray) (hs : s.size = 128) (hp : Lib.hasPrefix s.data.toList mark = true) (w : World) (hr : RowAt w) : Calls Tryd.prog 32 #[.string s] w (Unp (if (parse s).right ∧ ba ((parse s).bytes crcSum) = s then (parse s, 0) else (M.zero, 4)) w) := by
  have HP := Aside0.mk (fun W => Sh.strings_HasPrefix s markS W)
  rw [show markS.data.toList = mark from rfl, hp] at HP
  unfold markS at HP
  have A1 := Aside0.mk (fun W => at_calls s 8 8 (by omega) (by omega) (by omega) (by omega) W)
  have A2 := Aside0.mk (fun W => at_calls s 16 4 (by omega) (by omega) (by omega) (by omega) W)
  have A3 := Aside0.mk (fun W => at_calls s 20 4 (by omega) (by omega) (by omega) (by omega) W)
  have A4 := Aside0.mk (fun W => at_calls s 24 4 (by omega) (by omega) (by omega) (by omega) W)
  have A5 := Aside0.mk (fun W => at_calls s 28 4 (by omega) (by omega) (by omega) (by omega) W)
  have HPk := Aside0.mk (fun W hr => pack_calls (parse s) W hr)
  have HT := Aside0.mk hr
  obtain ⟨res, hres⟩ : ∃ r : M × Int, r = (if (parse s).right ∧ ba ((parse s).bytes crcSum) = s then (parse s, 0) else (M.zero, 4)) := ⟨_, rfl⟩
  rw [← hres]
  have HRes := Aside0.mk hres
  clear hres
  have HM := Aside0.mk (show (parse s).cells = #[.int .i64 (i64v (val ((s.data.toList.drop 8).take 8))), .int .i64 (i64v (val ((s.data.toList.drop 16).take 4))), .int .i64 (i64v (val ((s.data.toList.drop 20).take 4))), .int .i64 (i64v (val ((s.data.toList.drop 24).take 4))), .int .i64 (i64v (val ((s.data.toList.drop 28).take 4)))] from rfl)
  rw [HM.out] at HPk
  have a1 : (s.size : Int) = 128 := by omega
  have HS := Aside0.mk hs
  clear hs hr
  generalize i64v (val ((s.data.toList.drop 8).take 8)) = n1 at *
  generalize i64v (val ((s.data.toList.drop 16).take 4)) = n2 at *
  generalize i64v (val ((s.data.toList.drop 20).take 4)) = n3 at *
  generalize i64v (val ((s.data.toList.drop 24).take 4)) = n4 at *
  generalize i64v (val ((s.data.toList.drop 28).take 4)) = n5 at *
  generalize parse s = m at *
  go_enter Tryd.func32, Tryd.ntmps32
  go_wp2_with fail
  refine (HP.out _).mono ?_
  rintro e w1 ⟨rfl, rfl⟩
  go_wp2_with fail
  refine (A1.out _).mono ?_
  rintro e w1 ⟨rfl, hb⟩
  have hx := (hb.block w.heap.size (by simp)).trans (blk_new w _)
  have HB1 := Aside0.mk (below_step (below_alloc (Below.refl w.heap.size w) _) hb)
  have HX1 := Aside0.mk hx
  clear hb hx
  go_wp2_with fail
  refine (A2.out _).mono ?_
  rintro e w2 ⟨rfl, hb⟩
  have HX2 := Aside0.mk (blk_below HX1.out hb)
  have HB2 := Aside0.mk (below_step HB1.out hb)
  clear hb HX1 HB1
  go_wp2_with fail
  refine (A3.out _).mono ?_
  rintro e w1 ⟨rfl, hb⟩
  have HX3 := Aside0.mk (blk_below HX2.out hb)
  have HB3 := Aside0.mk (below_step HB2.out hb)
  clear hb HX2 HB2
  go_wp2_with fail
  refine (A4.out _).mono ?_
  rintro e w2 ⟨rfl, hb⟩
  have HX4 := Aside0.mk (blk_below HX3.out hb)
  have HB4 := Aside0.mk (below_step HB3.out hb)
  clear hb HX3 HB3
  go_wp2_with fail
  refine (A5.out _).mono ?_
  rintro e w1 ⟨rfl, hb⟩
  have HX5 := Aside0.mk (blk_below HX4.out hb)
  have HB5 := Aside0.mk (below_step HB4.out hb)
  clear hb HX4 HB4
  have HPK := Aside0.mk (HPk.out (w1.alloc (.cells #[.int .i64 n1, .int .i64 n2, .int .i64 n3, .int .i64 n4, .int .i64 n5] 32)) (HT.out.below (below_alloc HB5.out _) HT.out.pos))
  unfold pack at HPK
  clear HPk HT A1 A2 A3 A4 A5 HP
  by_cases hm : m.right
  · rw [if_pos hm] at HPK
    by_cases hq : ba (m.bytes crcSum) = s
    · rw [hq] at HPK
      have HR2 := HRes.out
      rw [if_pos ⟨hm, hq⟩] at HR2
      have HR3 := Aside0.mk HR2
      clear HRes HR2 hm hq
      go_wp2_with fail
      refine HPK.out.mono ?_
      rintro e w6 ⟨rfl, hb⟩
      have hg : w.heap.size < w1.heap.size := blk_lt HX5.out
      have hx := blk_below (blk_below HX5.out (below_alloc (Below.refl _ _) _)) hb
      have hy := blk_below (blk_new w1 _) hb
      have HB6 := Aside0.mk (below_step (below_alloc HB5.out _) hb)
      have c0 := (blk_cell hy 0).trans rfl
      have c1 := (blk_cell hy 1).trans rfl
      have c2 := (blk_cell hy 2).trans rfl
      have c3 := (blk_cell hy 3).trans rfl
      have c4 := (blk_cell hy 4).trans rfl
      have d0 := (blk_cell hx 0).trans rfl
      have d1 := (blk_cell hx 1).trans rfl
      have d2 := (blk_cell hx 2).trans rfl
      have d3 := (blk_cell hx 3).trans rfl
      have d4 := (blk_cell hx 4).trans rfl
      have f0 := blk_frozen hx
      have HX6 := Aside0.mk hx
      clear hb hx hy HX5
      go_wp2_with fail
      refine bodyPost_ret (results_list (rs := [.cell 2 32, .tmp 3]) rfl (by simp) (.cell w.heap.size 32 _ (0, 0) _ rfl (put5_blk HX6.out _ _ _ _ _) Tryd.underlying32 rfl (by kernel_rfl) (.tmp .nil))) rfl ?_
      rw [HR3.out]
      exact ⟨by dsimp only; rw [HM.out]; rfl, put5_below HB6.out (Nat.le_refl _) _ _ _ _ _⟩
    · have hne := tl_ne hq
      have HR2 := HRes.out
      rw [if_neg (fun h => hq h.2)] at HR2
      have HR3 := Aside0.mk HR2
      clear HRes HR2 hm hq
      generalize ba (m.bytes crcSum) = bs at *
      go_wp2_with fail
      refine HPK.out.mono ?_
      rintro e w6 ⟨rfl, hb⟩
      have hg : w.heap.size < w1.heap.size := blk_lt HX5.out
      have hx := blk_below (blk_below HX5.out (below_alloc (Below.refl _ _) _)) hb
      have hy := blk_below (blk_new w1 _) hb
      have HB6 := Aside0.mk (below_step (below_alloc HB5.out _) hb)
      have c0 := (blk_cell hy 0).trans rfl
      have c1 := (blk_cell hy 1).trans rfl
      have c2 := (blk_cell hy 2).trans rfl
      have c3 := (blk_cell hy 3).trans rfl
      have c4 := (blk_cell hy 4).trans rfl
      have d0 := (blk_cell hx 0).trans rfl
      have d1 := (blk_cell hx 1).trans rfl
      have d2 := (blk_cell hx 2).trans rfl
      have d3 := (blk_cell hx 3).trans rfl
      have d4 := (blk_cell hx 4).trans rfl
      have f0 := blk_frozen hx
      have HX6 := Aside0.mk hx
      clear hb hx hy HX5
      go_wp2_with fail
      refine bodyPost_ret (results_list (rs := [.cell 2 32, .tmp 3]) rfl (by simp) (.cell w.heap.size 32 _ (0, 0) _ rfl (put5_blk HX6.out _ _ _ _ _) Tryd.underlying32 rfl (by kernel_rfl) (.tmp .nil))) rfl ?_
      rw [HR3.out]
      exact ⟨rfl, put5_below HB6.out (Nat.le_refl _) _ _ _ _ _⟩
  · rw [if_neg hm] at HPK
    have HR2 := HRes.out
    rw [if_neg (fun h => hm h.1)] at HR2
    have HR3 := Aside0.mk HR2
    clear HRes HR2 hm
    go_wp2_with fail
    refine HPK.out.mono ?_
    rintro e w6 ⟨rfl, hb⟩
    have hg : w.heap.size < w1.heap.size := blk_lt HX5.out
    have hx := blk_below (blk_below HX5.out (below_alloc (Below.refl _ _) _)) hb
    have hy := blk_below (blk_new w1 _) hb
    have HB6 := Aside0.mk (below_step (below_alloc HB5.out _) hb)
    have c0 := (blk_cell hy 0).trans rfl
    have c1 := (blk_cell hy 1).trans rfl
    have c2 := (blk_cell hy 2).trans rfl
    have c3 := (blk_cell hy 3).trans rfl
    have c4 := (blk_cell hy 4).trans rfl
    have d0 := (blk_cell hx 0).trans rfl
    have d1 := (blk_cell hx 1).trans rfl
    have d2 := (blk_cell hx 2).trans rfl
    have d3 := (blk_cell hx 3).trans rfl
    have d4 := (blk_cell hx 4).trans rfl
    have f0 := blk_frozen hx
    have HX6 := Aside0.mk hx
    clear hb hx hy HX5
    go_wp2_with fail
    refine bodyPost_ret (results_list (rs := [.cell 2 32, .tmp 3]) rfl (by simp) (.cell w.heap.size 32 _ (0, 0) _ rfl (put5_blk HX6.out _ _ _ _ _) Tryd.underlying32 rfl (by kernel_rfl) (.tmp .nil))) rfl ?_
    rw [HR3.out]
    exact ⟨rfl, put5_below HB6.out (Nat.le_refl _) _ _ _ _ _⟩
theorem unpack_calls (s : ByteArray) (w : World) (hr : RowAt w) : Calls Tryd.prog 32 #[.string s] w (Unp (unp s) w) := by
  by_cases hs : s.size = 128
  · by_cases hp : Lib.hasPrefix s.data.toList mark = true
    · have hk : s.data.toList.take 8 = mark := has_mark.1 hp
      have := unpack_go s hs hp w hr
      unfold unp unpack
      by_cases hq : (parse s).right ∧ ba ((parse s).bytes crcSum) = s
      · rw [if_pos hq] at this
        rw [if_pos ⟨hs, hk, hq⟩]
        exact this
      · rw [if_neg hq] at this
        rw [if_neg (fun h => hq h.2.2)]
        exact this
    · have hk : ¬ s.data.toList.take 8 = mark := fun h => hp (has_mark.2 h)
      unfold unp unpack
      rw [if_neg (fun h => hk h.2.1)]
      exact unpack_no2 s hs (by simpa using hp) w
  · unfold unp unpack
    rw [if_neg (fun h => hs h.1)]
    exact unpack_no1 s hs w
end Go.Proofs.YtjbkkmgkckopdaaDoor.Pg
