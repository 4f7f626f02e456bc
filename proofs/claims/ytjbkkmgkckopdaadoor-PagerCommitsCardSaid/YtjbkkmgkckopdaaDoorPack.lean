/- A meta's bytes. -/
import Derived.Test.YtjbkkmgkckopdaaDoorPage
namespace Go.Proofs.YtjbkkmgkckopdaaDoor.Pg
open Go.RowKit Go.Proofs.YtjbkkmgkckopdaaDoorW.PrintWords Go.Proofs.YtjbkkmgkckopdaaDoorW.PrintLast Go.Proofs.YtjbkkmgkckopdaaDoorW.PrintMore Go.Proofs.YtjbkkmgkckopdaaDoor.Num Go.Proofs.YtjbkkmgkckopdaaDoor.Mem
set_option linter.unusedVariables false
set_option linter.unusedSimpArgs false
/-- Whatever is new, the table lies where it lay. -/
theorem RowAt.below {w w' : World} (h : RowAt w) {B : Nat} (hb : Below B w w') (hB : 1 ≤ B) : RowAt w' := fun i hi => (hb.cell (p := ⟨0, i, none⟩) (by show 0 < B; omega)).trans (h i hi)
theorem RowAt.pos {w : World} (h : RowAt w) : 1 ≤ w.heap.size := by
  have := World.block_lt_of_cell? w _ (h 0 (by omega))
  exact this
def markS : ByteArray := ⟨#[82, 79, 76, 76, 66, 79, 79, 75]⟩
theorem markS_ba : markS = ba mark := rfl
theorem laid_head (m : M) (h : m.right) : markS ++ ba (laid [(m.txn.toNat, 8), (m.root.toNat, 4), (m.free.toNat, 4), (m.pages.toNat, 4), (m.limit.toNat, 4)]) = ba m.head := by
  rw [markS_ba, ba_append]
  simp [laid, M.head]
theorem five_calls (n1 n2 n3 n4 n5 : Nat) (h1 : n1 ≤ 1099511627776) (h2 : n2 ≤ 512) (h3 : n3 ≤ 512) (h4 : n4 ≤ 512) (h5 : n5 ≤ 512) (W : World) :
    Calls Tryd.prog 43 #[.string markS, .slice (some ⟨W.heap.size, 0, none⟩) 5 5] (W.alloc (.cells #[.int .i64 (n1 : Int), .int .i64 8, .int .i64 (n2 : Int), .int .i64 4, .int .i64 (n3 : Int), .int .i64 4, .int .i64 (n4 : Int), .int .i64 4, .int .i64 (n5 : Int), .int .i64 4] 95)) fun e w' =>
      e = .returned (.string (markS ++ ba (laid [(n1, 8), (n2, 4), (n3, 4), (n4, 4), (n5, 4)]))) ∧ Below W.heap.size W w' := by
  refine (lay_calls markS [(n1, 8), (n2, 4), (n3, 4), (n4, 4), (n5, 4)] ?_ (by simp) (by decide) W.heap.size 5 _ (blk_new W _)).mono fun e w' h => ⟨h.1, below_step (below_alloc (Below.refl _ _) _) h.2⟩
  intro p hp
  simp only [List.mem_cons, List.not_mem_nil, or_false] at hp
  rcases hp with rfl | rfl | rfl | rfl | rfl
  · exact ⟨by simp, by simp, show n1 < 256 ^ 8 from Nat.lt_of_le_of_lt h1 (by decide), by simp only; omega⟩
  · exact ⟨by simp, by simp, show n2 < 256 ^ 4 from Nat.lt_of_le_of_lt h2 (by decide), by simp only; omega⟩
  · exact ⟨by simp, by simp, show n3 < 256 ^ 4 from Nat.lt_of_le_of_lt h3 (by decide), by simp only; omega⟩
  · exact ⟨by simp, by simp, show n4 < 256 ^ 4 from Nat.lt_of_le_of_lt h4 (by decide), by simp only; omega⟩
  · exact ⟨by simp, by simp, show n5 < 256 ^ 4 from Nat.lt_of_le_of_lt h5 (by decide), by simp only; omega⟩
theorem one_calls (s : ByteArray) (hs : s.size ≤ 1000) (n : Nat) (h : n < 4294967296) (W : World) :
    Calls Tryd.prog 43 #[.string s, .slice (some ⟨W.heap.size, 0, none⟩) 1 1] (W.alloc (.cells #[.int .i64 (n : Int), .int .i64 4] 95)) fun e w' =>
      e = .returned (.string (s ++ ba (laid [(n, 4)]))) ∧ Below W.heap.size W w' := by
  refine (lay_calls s [(n, 4)] ?_ (by simp) hs W.heap.size 1 _ (blk_new W _)).mono fun e w' h => ⟨h.1, below_step (below_alloc (Below.refl _ _) _) h.2⟩
  intro p hp
  obtain rfl := List.mem_singleton.1 hp
  exact ⟨by simp, by simp, show n < 256 ^ 4 from Nat.lt_of_lt_of_le h (by decide), by simp only; omega⟩
set_option maxHeartbeats 2000000 in
set_option maxRecDepth 100000 in
theorem pack_calls (m : M) (w : World) (hr : RowAt w) : Calls Tryd.prog 30 #[.agg m.cells] w fun e w' => e = .returned (.tuple #[.string (pack crcSum m).1, .int .i64 (pack crcSum m).2]) ∧ Below w.heap.size w w' := by
  have HR := Aside0.mk (fun W => right_calls m W)
  have HT := Aside0.mk hr
  unfold pack
  by_cases hm : m.right
  · rw [if_pos hm]
    rw [decide_eq_true hm] at HR
    have HL := Aside0.mk (laid_head m hm)
    have hb1 : ba (m.bytes crcSum) = ba m.head ++ ba (laid [(crcSum (ba m.head), 4)]) ++ ba (List.replicate (128 - (ba m.head ++ ba (laid [(crcSum (ba m.head), 4)])).size) 0) := by
      rw [ba_append, ba_size, List.length_append, head_length, ba_append]
      simp [laid, M.bytes, be_length]
    have hz1 : (ba m.head).size = 32 := by rw [ba_size, head_length]
    have hz2 : (ba m.head ++ ba (laid [(crcSum (ba m.head), 4)])).size = 36 := by rw [ba_append, ba_size, List.length_append, head_length]; simp [laid, be_length]
    have hcl := crcSum_lt (ba m.head)
    rw [hb1]
    obtain ⟨h1, h2, h3, h4, h5, h6, h7, h8, h9, h10⟩ := hm
    unfold M.cells at HR ⊢
    have t1 : m.txn = (m.txn.toNat : Int) := by omega
    have t2 : m.root = (m.root.toNat : Int) := by omega
    have t3 : m.free = (m.free.toNat : Int) := by omega
    have t4 : m.pages = (m.pages.toNat : Int) := by omega
    have t5 : m.limit = (m.limit.toNat : Int) := by omega
    rw [t1, t2, t3, t4, t5] at HR ⊢
    generalize m.txn.toNat = n1 at *
    generalize m.root.toNat = n2 at *
    generalize m.free.toNat = n3 at *
    generalize m.pages.toNat = n4 at *
    generalize m.limit.toNat = n5 at *
    have HL5 := Aside0.mk (five_calls n1 n2 n3 n4 n5 (by omega) (by omega) (by omega) (by omega) (by omega))
    unfold markS at HL HL5
    rw [HL.out] at HL5
    generalize ba m.head = hd at *
    have HS := Aside0.mk (fun W hr => sum_calls hd (by omega) W hr)
    have HL1 := Aside0.mk (fun W => one_calls hd (by omega) (crcSum hd) hcl W)
    have HF := Aside0.mk (fun W => filled_calls (hd ++ ba (laid [(crcSum hd, 4)])) 128 (by omega) (by omega) W)
    generalize hd ++ ba (laid [(crcSum hd, 4)]) = hd2 at *
    generalize crcSum hd = cs at *
    generalize ba (List.replicate (128 - hd2.size) 0) = zz at *
    clear t1 t2 t3 t4 t5 hr HL
    go_enter Tryd.func30, Tryd.ntmps30
    go_wp2_with fail
    refine (HR.out _).mono ?_
    rintro e w1 ⟨rfl, hb⟩
    have hx := (hb.block w.heap.size (by simp)).trans (blk_new w _)
    have c0 := (blk_cell hx 0).trans rfl
    have c1 := (blk_cell hx 1).trans rfl
    have c2 := (blk_cell hx 2).trans rfl
    have c3 := (blk_cell hx 3).trans rfl
    have c4 := (blk_cell hx 4).trans rfl
    have HB1 := Aside0.mk (below_step (below_alloc (Below.refl w.heap.size w) _) hb)
    clear hx
    clear hb
    go_wp2_with fail
    refine (HL5.out _).mono ?_
    rintro e w2 ⟨rfl, hb⟩
    have HB2 := Aside0.mk (below_step HB1.out hb)
    have HS2 := Aside0.mk (HS.out w2 (HT.out.below HB2.out HT.out.pos))
    clear hb
    go_wp2_with fail
    refine HS2.out.mono ?_
    rintro e w3 ⟨rfl, rfl⟩
    go_wp2_with fail
    refine (HL1.out _).mono ?_
    rintro e w4 ⟨rfl, hb⟩
    have HB4 := Aside0.mk (below_step HB2.out hb)
    clear hb
    go_wp2_with fail
    refine (HF.out _).mono ?_
    rintro e w5 ⟨rfl, hb⟩
    have HB5 := Aside0.mk (below_step HB4.out hb)
    clear hb
    go_wp2_with fail
    go_ret2
    exact ⟨rfl, HB5.out⟩
  · rw [if_neg hm]
    rw [decide_eq_false hm] at HR
    unfold M.cells at HR ⊢
    clear hm
    go_enter Tryd.func30, Tryd.ntmps30
    go_wp2_with fail
    refine (HR.out _).mono ?_
    rintro e w1 ⟨rfl, hb⟩
    have HB1 := Aside0.mk (below_step (below_alloc (Below.refl w.heap.size w) _) hb)
    clear hb
    go_wp2_with fail
    go_ret2
    exact ⟨rfl, HB1.out⟩
end Go.Proofs.YtjbkkmgkckopdaaDoor.Pg
