/- A device's file is opened. -/
import Derived.Test.YtjbkkmgkckopdaaDoorNewest
import Derived.Test.YtjbkkmgkckopdaaDoorDevI
import Derived.BigQuiet
import Derived.Deep.QuietTactic
namespace Go.Proofs.YtjbkkmgkckopdaaDoor.Pg
open Go.RowKit Go.Proofs.YtjbkkmgkckopdaaDoorW.PrintWords Go.Proofs.YtjbkkmgkckopdaaDoorW.PrintLast Go.Proofs.YtjbkkmgkckopdaaDoorW.PrintMore Go.Proofs.YtjbkkmgkckopdaaDoor.Num Go.Proofs.YtjbkkmgkckopdaaDoor.Mem Go.Proofs.YtjbkkmgkckopdaaDoor.Dv
set_option linter.unusedVariables false
set_option linter.unusedSimpArgs false
/-- A pager's cells. -/
def G.cells (p : G) (g : Nat) (sp : Value) : Array Value := #[.pointer (some ⟨g, 0, none⟩), .int .i64 p.cur.txn, .int .i64 p.cur.root, .int .i64 p.cur.free, .int .i64 p.cur.pages, .int .i64 p.cur.limit,
  .int .i64 p.oth.txn, .int .i64 p.oth.root, .int .i64 p.oth.free, .int .i64 p.oth.pages, .int .i64 p.oth.limit, .bool p.both, sp, .slice none 0 0]
theorem quo4 (n : Nat) (h : n ≤ 2048) : wrap64 ((n : Int) / 4) = ((n / 4 : Nat) : Int) := by
  unfold wrap64
  omega
theorem put5_below6 {B : Nat} {w W : World} {g : Nat} (h : Below B w W) (hg : B ≤ g) (c0 c1 c2 c3 c4 : Value) :
    Below B w (((((W.setCell ⟨g, 6, none⟩ c0).setCell ⟨g, 7, none⟩ c1).setCell ⟨g, 8, none⟩ c2).setCell ⟨g, 9, none⟩ c3).setCell ⟨g, 10, none⟩ c4) :=
  ((((h.setCell hg _).setCell hg _).setCell hg _).setCell hg _).setCell hg _
section
variable {w : World} {ok : Nat → Prop} {g : Nat} {d : D} {y : Lay}
set_option maxHeartbeats 2000000 in
set_option maxRecDepth 100000 in
theorem open_bad (h : DAt w ok g d y) (hr : RowAt w) (s0 s1 : S) (h0 : d.read 0 = (s0, 0)) (h1 : d.read 1 = (s1, 0)) (hn : newest crcSum s0 s1 = none) : Calls Tryd.prog 10 #[.pointer (some ⟨g, 0, none⟩)] w (fun e w' => e = .returned (.tuple #[.pointer none, .int .i64 4]) ∧ Below w.heap.size w w') := by
  have HD := Aside0.mk (fun W (hb : Below w.heap.size w W) => h.quiet hb)
  have HR := Aside0.mk (fun W (hb : Below w.heap.size w W) i => read_calls W (h.quiet hb) i)
  have HT := Aside0.mk hr
  have H0 := Aside0.mk h0
  have H1 := Aside0.mk h1
  have HN := Aside0.mk (fun W hr => newest_calls s0 s1 W hr)
  unfold newR at HN
  rw [hn] at HN
  clear hn
  clear h hr h0 h1
  go_enter Tryd.func10, Tryd.ntmps10
  go_wp2_with fail
  go_loopg [14] 2 (fun kx v14 wr => ∃ (k : Nat) (a0 a1 : S), v14 = .int .i64 (k : Int) ∧ k ≤ 2 ∧ 2 - k ≤ kx ∧ Aside0 ((1 ≤ k → a0 = s0) ∧ (2 ≤ k → a1 = s1)) ∧ wr = w.alloc (.cells #[.string a0, .string a1] 68))
  case atStart => exact ⟨0, _, _, rfl, by omega, by omega, ⟨fun h => by omega, fun h => by omega⟩, rfl⟩
  case round =>
    obtain ⟨k, a0, a1, rfl, hk, hkx, HA, rfl⟩ := hrel
    have hk3 : k = 0 ∨ k = 1 ∨ k = 2 := by omega
    rcases hk3 with rfl | rfl | rfl
    · have HR0 := Aside0.mk (HR.out (w.alloc (.cells #[.string a0, .string a1] 68)) (below_alloc (Below.refl _ _) _) 0)
      rw [H0.out] at HR0
      clear HR
      have e0 : ((0 : Nat) : Int) = 0 := rfl
      rw [e0]
      go_wp2_with fail
      refine HR0.out.mono ?_
      rintro e w1 ⟨rfl, rfl⟩
      go_wp2_with fail
      go_roundg 1
      case measure => omega
      case rel => exact ⟨1, s0, a1, rfl, by omega, by omega, ⟨fun _ => rfl, fun h => by omega⟩, rfl⟩
    · have HR1 := Aside0.mk (HR.out (w.alloc (.cells #[.string a0, .string a1] 68)) (below_alloc (Below.refl _ _) _) 1)
      rw [H1.out] at HR1
      clear HR
      have e0 : ((1 : Nat) : Int) = 1 := rfl
      rw [e0]
      go_wp2_with fail
      refine HR1.out.mono ?_
      rintro e w1 ⟨rfl, rfl⟩
      go_wp2_with fail
      go_roundg 0
      case measure => omega
      case rel => exact ⟨2, a0, s1, rfl, by omega, by omega, ⟨fun _ => HA.out.1 (by omega), fun h => rfl⟩, rfl⟩
    · obtain rfl := HA.out.1 (by omega)
      obtain rfl := HA.out.2 (by omega)
      clear HA HR
      go_wp2_with fail
      refine (HN.out (w.alloc (.cells #[.string a0, .string a1] 68)) (HT.out.below (below_alloc (Below.refl _ _) _) HT.out.pos)).mono ?_
      rintro e w2 ⟨rfl, hb⟩
      unfold M.cells
      have HB2 := Aside0.mk (below_step (below_alloc (Below.refl w.heap.size w) (.cells #[.string a0, .string a1] 68)) hb)
      have hx := blk_below (blk_new w (.cells #[.string a0, .string a1] 68)) hb
      have HX2 := Aside0.mk hx
      clear hb
      dsimp only
      go_wp2_with fail
      go_quiet (fail)
      go_wp2_with fail
      go_ret2
      exact ⟨rfl, below_drewN (below_alloc HB2.out _) _⟩
set_option maxHeartbeats 2000000 in
set_option maxRecDepth 100000 in
theorem open_big (h : DAt w ok g d y) (hr : RowAt w) (s0 s1 : S) (h0 : d.read 0 = (s0, 0)) (h1 : d.read 1 = (s1, 0)) (m : M) (k : Nat) (hn : newest crcSum s0 s1 = some (m, k)) (hl : ((d.lasts.length / 4 : Nat) : Int) < m.limit) : Calls Tryd.prog 10 #[.pointer (some ⟨g, 0, none⟩)] w (fun e w' => e = .returned (.tuple #[.pointer none, .int .i64 4]) ∧ Below w.heap.size w w') := by
  have HD := Aside0.mk (fun W (hb : Below w.heap.size w W) => h.quiet hb)
  have HR := Aside0.mk (fun W (hb : Below w.heap.size w W) i => read_calls W (h.quiet hb) i)
  have HT := Aside0.mk hr
  have H0 := Aside0.mk h0
  have H1 := Aside0.mk h1
  have HN := Aside0.mk (fun W hr => newest_calls s0 s1 W hr)
  unfold newR at HN
  rw [hn] at HN
  have HS := Aside0.mk (fun W (hb : Below w.heap.size w W) => size_calls W (h.quiet hb))
  have hw := quo4 d.lasts.length h.len
  generalize ((d.lasts.length / 4 : Nat) : Int) = q4 at *
  clear hn
  clear h hr h0 h1
  go_enter Tryd.func10, Tryd.ntmps10
  go_wp2_with fail
  go_loopg [14] 2 (fun kx v14 wr => ∃ (k : Nat) (a0 a1 : S), v14 = .int .i64 (k : Int) ∧ k ≤ 2 ∧ 2 - k ≤ kx ∧ Aside0 ((1 ≤ k → a0 = s0) ∧ (2 ≤ k → a1 = s1)) ∧ wr = w.alloc (.cells #[.string a0, .string a1] 68))
  case atStart => exact ⟨0, _, _, rfl, by omega, by omega, ⟨fun h => by omega, fun h => by omega⟩, rfl⟩
  case round =>
    obtain ⟨k, a0, a1, rfl, hk, hkx, HA, rfl⟩ := hrel
    have hk3 : k = 0 ∨ k = 1 ∨ k = 2 := by omega
    rcases hk3 with rfl | rfl | rfl
    · have HR0 := Aside0.mk (HR.out (w.alloc (.cells #[.string a0, .string a1] 68)) (below_alloc (Below.refl _ _) _) 0)
      rw [H0.out] at HR0
      clear HR
      have e0 : ((0 : Nat) : Int) = 0 := rfl
      rw [e0]
      go_wp2_with fail
      refine HR0.out.mono ?_
      rintro e w1 ⟨rfl, rfl⟩
      go_wp2_with fail
      go_roundg 1
      case measure => omega
      case rel => exact ⟨1, s0, a1, rfl, by omega, by omega, ⟨fun _ => rfl, fun h => by omega⟩, rfl⟩
    · have HR1 := Aside0.mk (HR.out (w.alloc (.cells #[.string a0, .string a1] 68)) (below_alloc (Below.refl _ _) _) 1)
      rw [H1.out] at HR1
      clear HR
      have e0 : ((1 : Nat) : Int) = 1 := rfl
      rw [e0]
      go_wp2_with fail
      refine HR1.out.mono ?_
      rintro e w1 ⟨rfl, rfl⟩
      go_wp2_with fail
      go_roundg 0
      case measure => omega
      case rel => exact ⟨2, a0, s1, rfl, by omega, by omega, ⟨fun _ => HA.out.1 (by omega), fun h => rfl⟩, rfl⟩
    · obtain rfl := HA.out.1 (by omega)
      obtain rfl := HA.out.2 (by omega)
      clear HA HR
      go_wp2_with fail
      refine (HN.out (w.alloc (.cells #[.string a0, .string a1] 68)) (HT.out.below (below_alloc (Below.refl _ _) _) HT.out.pos)).mono ?_
      rintro e w2 ⟨rfl, hb⟩
      unfold M.cells
      have HB2 := Aside0.mk (below_step (below_alloc (Below.refl w.heap.size w) (.cells #[.string a0, .string a1] 68)) hb)
      have hx := blk_below (blk_new w (.cells #[.string a0, .string a1] 68)) hb
      have HX2 := Aside0.mk hx
      clear hb
      dsimp only
      have HSq := Aside0.mk (fun nn => HS.out ((w2.alloc (.cells #[.int .i64 m.txn, .int .i64 m.root, .int .i64 m.free, .int .i64 m.pages, .int .i64 m.limit] 32)).drewN nn) (below_drewN (below_alloc HB2.out _) nn))
      go_wp2_with fail
      go_quiet ((go_at_call 29; exact Calls.quiet_of_same ((HSq.out _).mono fun e w' h => ⟨h.1, h.2.symm⟩)))
      go_wp2_with fail
      go_ret2
      exact ⟨rfl, below_drewN (below_alloc HB2.out _) _⟩
set_option maxHeartbeats 2000000 in
set_option maxRecDepth 100000 in
theorem open_0_yes (h : DAt w ok g d y) (hr : RowAt w) (s0 s1 : S) (h0 : d.read 0 = (s0, 0)) (h1 : d.read 1 = (s1, 0)) (m : M) (o1 o2 o3 o4 o5 : Int) (hn : newest crcSum s0 s1 = some (m, 0)) (ho : unpack crcSum s1 = some ⟨o1, o2, o3, o4, o5⟩) (hl : ¬ ((d.lasts.length / 4 : Nat) : Int) < m.limit) : Calls Tryd.prog 10 #[.pointer (some ⟨g, 0, none⟩)] w (fun e w' => ∃ gp, e = .returned (.tuple #[.pointer (some ⟨gp, 0, none⟩), .int .i64 0]) ∧ Below w.heap.size w w' ∧ w.heap.size ≤ gp ∧ w'.heap[gp]? = some (.cells (G.cells ⟨m, ⟨o1, o2, o3, o4, o5⟩, true, none⟩ g (.pointer none)) 71 (0, 0))) := by
  have HD := Aside0.mk (fun W (hb : Below w.heap.size w W) => h.quiet hb)
  have HR := Aside0.mk (fun W (hb : Below w.heap.size w W) i => read_calls W (h.quiet hb) i)
  have HT := Aside0.mk hr
  have H0 := Aside0.mk h0
  have H1 := Aside0.mk h1
  have HN := Aside0.mk (fun W hr => newest_calls s0 s1 W hr)
  unfold newR at HN
  rw [hn] at HN
  have HS := Aside0.mk (fun W (hb : Below w.heap.size w W) => size_calls W (h.quiet hb))
  have hw := quo4 d.lasts.length h.len
  generalize ((d.lasts.length / 4 : Nat) : Int) = q4 at *
  clear hn
  have HU := Aside0.mk (fun W hr => unpack_calls s1 W hr)
  unfold unp at HU
  rw [ho] at HU
  clear ho
  clear h hr h0 h1
  go_enter Tryd.func10, Tryd.ntmps10
  go_wp2_with fail
  go_loopg [14] 2 (fun kx v14 wr => ∃ (k : Nat) (a0 a1 : S), v14 = .int .i64 (k : Int) ∧ k ≤ 2 ∧ 2 - k ≤ kx ∧ Aside0 ((1 ≤ k → a0 = s0) ∧ (2 ≤ k → a1 = s1)) ∧ wr = w.alloc (.cells #[.string a0, .string a1] 68))
  case atStart => exact ⟨0, _, _, rfl, by omega, by omega, ⟨fun h => by omega, fun h => by omega⟩, rfl⟩
  case round =>
    obtain ⟨k, a0, a1, rfl, hk, hkx, HA, rfl⟩ := hrel
    have hk3 : k = 0 ∨ k = 1 ∨ k = 2 := by omega
    rcases hk3 with rfl | rfl | rfl
    · have HR0 := Aside0.mk (HR.out (w.alloc (.cells #[.string a0, .string a1] 68)) (below_alloc (Below.refl _ _) _) 0)
      rw [H0.out] at HR0
      clear HR
      have e0 : ((0 : Nat) : Int) = 0 := rfl
      rw [e0]
      go_wp2_with fail
      refine HR0.out.mono ?_
      rintro e w1 ⟨rfl, rfl⟩
      go_wp2_with fail
      go_roundg 1
      case measure => omega
      case rel => exact ⟨1, s0, a1, rfl, by omega, by omega, ⟨fun _ => rfl, fun h => by omega⟩, rfl⟩
    · have HR1 := Aside0.mk (HR.out (w.alloc (.cells #[.string a0, .string a1] 68)) (below_alloc (Below.refl _ _) _) 1)
      rw [H1.out] at HR1
      clear HR
      have e0 : ((1 : Nat) : Int) = 1 := rfl
      rw [e0]
      go_wp2_with fail
      refine HR1.out.mono ?_
      rintro e w1 ⟨rfl, rfl⟩
      go_wp2_with fail
      go_roundg 0
      case measure => omega
      case rel => exact ⟨2, a0, s1, rfl, by omega, by omega, ⟨fun _ => HA.out.1 (by omega), fun h => rfl⟩, rfl⟩
    · obtain rfl := HA.out.1 (by omega)
      obtain rfl := HA.out.2 (by omega)
      clear HA HR
      go_wp2_with fail
      refine (HN.out (w.alloc (.cells #[.string a0, .string a1] 68)) (HT.out.below (below_alloc (Below.refl _ _) _) HT.out.pos)).mono ?_
      rintro e w2 ⟨rfl, hb⟩
      unfold M.cells
      have HB2 := Aside0.mk (below_step (below_alloc (Below.refl w.heap.size w) (.cells #[.string a0, .string a1] 68)) hb)
      have hx := blk_below (blk_new w (.cells #[.string a0, .string a1] 68)) hb
      have HX2 := Aside0.mk hx
      clear hb
      dsimp only
      have HSq := Aside0.mk (fun nn => HS.out ((w2.alloc (.cells #[.int .i64 m.txn, .int .i64 m.root, .int .i64 m.free, .int .i64 m.pages, .int .i64 m.limit] 32)).drewN nn) (below_drewN (below_alloc HB2.out _) nn))
      go_wp2_with fail
      go_quiet ((go_at_call 29; exact Calls.quiet_of_same ((HSq.out _).mono fun e w' h => ⟨h.1, h.2.symm⟩)))
      have hx3 := blk_alloc (blk_drewN (blk_alloc hx (.cells #[.int .i64 m.txn, .int .i64 m.root, .int .i64 m.free, .int .i64 m.pages, .int .i64 m.limit] 32)) nq) (.cells #[.pointer (some ⟨g, 0, none⟩), .int .i64 m.txn, .int .i64 m.root, .int .i64 m.free, .int .i64 m.pages, .int .i64 m.limit, .int .i64 0, .int .i64 0, .int .i64 0, .int .i64 0, .int .i64 0, .bool false, .pointer none, .slice none 0 0] 71)
      have c0 := (blk_cell hx3 0).trans rfl
      have c1 := (blk_cell hx3 1).trans rfl
      clear hx hx3
      go_wp2_with fail
      refine (HU.out _ (HT.out.below (below_alloc (below_drewN (below_alloc HB2.out _) _) _) HT.out.pos)).mono ?_
      rintro e w4 ⟨rfl, hb⟩
      unfold M.cells
      have hsz : ((w2.alloc (.cells #[.int .i64 m.txn, .int .i64 m.root, .int .i64 m.free, .int .i64 m.pages, .int .i64 m.limit] 32)).drewN nq).heap.size = w2.heap.size + 1 := by simp
      have hp := blk_below (blk_new ((w2.alloc (.cells #[.int .i64 m.txn, .int .i64 m.root, .int .i64 m.free, .int .i64 m.pages, .int .i64 m.limit] 32)).drewN nq) (.cells #[.pointer (some ⟨g, 0, none⟩), .int .i64 m.txn, .int .i64 m.root, .int .i64 m.free, .int .i64 m.pages, .int .i64 m.limit, .int .i64 0, .int .i64 0, .int .i64 0, .int .i64 0, .int .i64 0, .bool false, .pointer none, .slice none 0 0] 71)) hb
      rw [hsz] at hp
      have HB4 := Aside0.mk (below_step (below_alloc (below_drewN (below_alloc HB2.out (.cells #[.int .i64 m.txn, .int .i64 m.root, .int .i64 m.free, .int .i64 m.pages, .int .i64 m.limit] 32)) nq) (.cells #[.pointer (some ⟨g, 0, none⟩), .int .i64 m.txn, .int .i64 m.root, .int .i64 m.free, .int .i64 m.pages, .int .i64 m.limit, .int .i64 0, .int .i64 0, .int .i64 0, .int .i64 0, .int .i64 0, .bool false, .pointer none, .slice none 0 0] 71)) hb)
      have hp2 := blk_alloc hp (.cells #[.int .i64 o1, .int .i64 o2, .int .i64 o3, .int .i64 o4, .int .i64 o5] 32)
      have e6 := (blk_cell hp2 6).trans rfl
      have e7 := (blk_cell hp2 7).trans rfl
      have e8 := (blk_cell hp2 8).trans rfl
      have e9 := (blk_cell hp2 9).trans rfl
      have e10 := (blk_cell hp2 10).trans rfl
      have e11 := (blk_cell hp2 11).trans rfl
      have f0 := blk_frozen hp2
      have HP2 := Aside0.mk hp2
      have HG := Aside0.mk (show w.heap.size ≤ w2.heap.size + 1 by have := HB2.out.size; omega)
      clear hb hp hp2 hsz c0 c1
      go_wp2_with fail
      go_ret2
      exact ⟨w2.heap.size + 1, rfl, ((put5_below6 (below_alloc HB4.out _) HG.out _ _ _ _ _).setCell HG.out _), HG.out, blk_put (blk_put (blk_put (blk_put (blk_put (blk_put HP2.out 6 _ rfl) 7 _ rfl) 8 _ rfl) 9 _ rfl) 10 _ rfl) 11 _ rfl⟩
set_option maxHeartbeats 2000000 in
set_option maxRecDepth 100000 in
theorem open_0_no (h : DAt w ok g d y) (hr : RowAt w) (s0 s1 : S) (h0 : d.read 0 = (s0, 0)) (h1 : d.read 1 = (s1, 0)) (m : M) (hn : newest crcSum s0 s1 = some (m, 0)) (ho : unpack crcSum s1 = none) (hl : ¬ ((d.lasts.length / 4 : Nat) : Int) < m.limit) : Calls Tryd.prog 10 #[.pointer (some ⟨g, 0, none⟩)] w (fun e w' => ∃ gp, e = .returned (.tuple #[.pointer (some ⟨gp, 0, none⟩), .int .i64 0]) ∧ Below w.heap.size w w' ∧ w.heap.size ≤ gp ∧ w'.heap[gp]? = some (.cells (G.cells ⟨m, M.zero, false, none⟩ g (.pointer none)) 71 (0, 0))) := by
  have HD := Aside0.mk (fun W (hb : Below w.heap.size w W) => h.quiet hb)
  have HR := Aside0.mk (fun W (hb : Below w.heap.size w W) i => read_calls W (h.quiet hb) i)
  have HT := Aside0.mk hr
  have H0 := Aside0.mk h0
  have H1 := Aside0.mk h1
  have HN := Aside0.mk (fun W hr => newest_calls s0 s1 W hr)
  unfold newR at HN
  rw [hn] at HN
  have HS := Aside0.mk (fun W (hb : Below w.heap.size w W) => size_calls W (h.quiet hb))
  have hw := quo4 d.lasts.length h.len
  generalize ((d.lasts.length / 4 : Nat) : Int) = q4 at *
  clear hn
  have HU := Aside0.mk (fun W hr => unpack_calls s1 W hr)
  unfold unp at HU
  rw [ho] at HU
  clear ho
  clear h hr h0 h1
  go_enter Tryd.func10, Tryd.ntmps10
  go_wp2_with fail
  go_loopg [14] 2 (fun kx v14 wr => ∃ (k : Nat) (a0 a1 : S), v14 = .int .i64 (k : Int) ∧ k ≤ 2 ∧ 2 - k ≤ kx ∧ Aside0 ((1 ≤ k → a0 = s0) ∧ (2 ≤ k → a1 = s1)) ∧ wr = w.alloc (.cells #[.string a0, .string a1] 68))
  case atStart => exact ⟨0, _, _, rfl, by omega, by omega, ⟨fun h => by omega, fun h => by omega⟩, rfl⟩
  case round =>
    obtain ⟨k, a0, a1, rfl, hk, hkx, HA, rfl⟩ := hrel
    have hk3 : k = 0 ∨ k = 1 ∨ k = 2 := by omega
    rcases hk3 with rfl | rfl | rfl
    · have HR0 := Aside0.mk (HR.out (w.alloc (.cells #[.string a0, .string a1] 68)) (below_alloc (Below.refl _ _) _) 0)
      rw [H0.out] at HR0
      clear HR
      have e0 : ((0 : Nat) : Int) = 0 := rfl
      rw [e0]
      go_wp2_with fail
      refine HR0.out.mono ?_
      rintro e w1 ⟨rfl, rfl⟩
      go_wp2_with fail
      go_roundg 1
      case measure => omega
      case rel => exact ⟨1, s0, a1, rfl, by omega, by omega, ⟨fun _ => rfl, fun h => by omega⟩, rfl⟩
    · have HR1 := Aside0.mk (HR.out (w.alloc (.cells #[.string a0, .string a1] 68)) (below_alloc (Below.refl _ _) _) 1)
      rw [H1.out] at HR1
      clear HR
      have e0 : ((1 : Nat) : Int) = 1 := rfl
      rw [e0]
      go_wp2_with fail
      refine HR1.out.mono ?_
      rintro e w1 ⟨rfl, rfl⟩
      go_wp2_with fail
      go_roundg 0
      case measure => omega
      case rel => exact ⟨2, a0, s1, rfl, by omega, by omega, ⟨fun _ => HA.out.1 (by omega), fun h => rfl⟩, rfl⟩
    · obtain rfl := HA.out.1 (by omega)
      obtain rfl := HA.out.2 (by omega)
      clear HA HR
      go_wp2_with fail
      refine (HN.out (w.alloc (.cells #[.string a0, .string a1] 68)) (HT.out.below (below_alloc (Below.refl _ _) _) HT.out.pos)).mono ?_
      rintro e w2 ⟨rfl, hb⟩
      unfold M.cells
      have HB2 := Aside0.mk (below_step (below_alloc (Below.refl w.heap.size w) (.cells #[.string a0, .string a1] 68)) hb)
      have hx := blk_below (blk_new w (.cells #[.string a0, .string a1] 68)) hb
      have HX2 := Aside0.mk hx
      clear hb
      dsimp only
      have HSq := Aside0.mk (fun nn => HS.out ((w2.alloc (.cells #[.int .i64 m.txn, .int .i64 m.root, .int .i64 m.free, .int .i64 m.pages, .int .i64 m.limit] 32)).drewN nn) (below_drewN (below_alloc HB2.out _) nn))
      go_wp2_with fail
      go_quiet ((go_at_call 29; exact Calls.quiet_of_same ((HSq.out _).mono fun e w' h => ⟨h.1, h.2.symm⟩)))
      have hx3 := blk_alloc (blk_drewN (blk_alloc hx (.cells #[.int .i64 m.txn, .int .i64 m.root, .int .i64 m.free, .int .i64 m.pages, .int .i64 m.limit] 32)) nq) (.cells #[.pointer (some ⟨g, 0, none⟩), .int .i64 m.txn, .int .i64 m.root, .int .i64 m.free, .int .i64 m.pages, .int .i64 m.limit, .int .i64 0, .int .i64 0, .int .i64 0, .int .i64 0, .int .i64 0, .bool false, .pointer none, .slice none 0 0] 71)
      have c0 := (blk_cell hx3 0).trans rfl
      have c1 := (blk_cell hx3 1).trans rfl
      clear hx hx3
      go_wp2_with fail
      refine (HU.out _ (HT.out.below (below_alloc (below_drewN (below_alloc HB2.out _) _) _) HT.out.pos)).mono ?_
      rintro e w4 ⟨rfl, hb⟩
      unfold M.cells
      have hsz : ((w2.alloc (.cells #[.int .i64 m.txn, .int .i64 m.root, .int .i64 m.free, .int .i64 m.pages, .int .i64 m.limit] 32)).drewN nq).heap.size = w2.heap.size + 1 := by simp
      have hp := blk_below (blk_new ((w2.alloc (.cells #[.int .i64 m.txn, .int .i64 m.root, .int .i64 m.free, .int .i64 m.pages, .int .i64 m.limit] 32)).drewN nq) (.cells #[.pointer (some ⟨g, 0, none⟩), .int .i64 m.txn, .int .i64 m.root, .int .i64 m.free, .int .i64 m.pages, .int .i64 m.limit, .int .i64 0, .int .i64 0, .int .i64 0, .int .i64 0, .int .i64 0, .bool false, .pointer none, .slice none 0 0] 71)) hb
      rw [hsz] at hp
      have HB4 := Aside0.mk (below_step (below_alloc (below_drewN (below_alloc HB2.out (.cells #[.int .i64 m.txn, .int .i64 m.root, .int .i64 m.free, .int .i64 m.pages, .int .i64 m.limit] 32)) nq) (.cells #[.pointer (some ⟨g, 0, none⟩), .int .i64 m.txn, .int .i64 m.root, .int .i64 m.free, .int .i64 m.pages, .int .i64 m.limit, .int .i64 0, .int .i64 0, .int .i64 0, .int .i64 0, .int .i64 0, .bool false, .pointer none, .slice none 0 0] 71)) hb)
      have hp2 := blk_alloc hp (.cells #[.int .i64 0, .int .i64 0, .int .i64 0, .int .i64 0, .int .i64 0] 32)
      have e6 := (blk_cell hp2 6).trans rfl
      have e7 := (blk_cell hp2 7).trans rfl
      have e8 := (blk_cell hp2 8).trans rfl
      have e9 := (blk_cell hp2 9).trans rfl
      have e10 := (blk_cell hp2 10).trans rfl
      have e11 := (blk_cell hp2 11).trans rfl
      have f0 := blk_frozen hp2
      have HP2 := Aside0.mk hp2
      have HG := Aside0.mk (show w.heap.size ≤ w2.heap.size + 1 by have := HB2.out.size; omega)
      clear hb hp hp2 hsz c0 c1
      go_wp2_with fail
      go_ret2
      exact ⟨w2.heap.size + 1, rfl, below_alloc HB4.out _, HG.out, HP2.out⟩
set_option maxHeartbeats 2000000 in
set_option maxRecDepth 100000 in
theorem open_1_yes (h : DAt w ok g d y) (hr : RowAt w) (s0 s1 : S) (h0 : d.read 0 = (s0, 0)) (h1 : d.read 1 = (s1, 0)) (m : M) (o1 o2 o3 o4 o5 : Int) (hn : newest crcSum s0 s1 = some (m, 1)) (ho : unpack crcSum s0 = some ⟨o1, o2, o3, o4, o5⟩) (hl : ¬ ((d.lasts.length / 4 : Nat) : Int) < m.limit) : Calls Tryd.prog 10 #[.pointer (some ⟨g, 0, none⟩)] w (fun e w' => ∃ gp, e = .returned (.tuple #[.pointer (some ⟨gp, 0, none⟩), .int .i64 0]) ∧ Below w.heap.size w w' ∧ w.heap.size ≤ gp ∧ w'.heap[gp]? = some (.cells (G.cells ⟨m, ⟨o1, o2, o3, o4, o5⟩, true, none⟩ g (.pointer none)) 71 (0, 0))) := by
  have HD := Aside0.mk (fun W (hb : Below w.heap.size w W) => h.quiet hb)
  have HR := Aside0.mk (fun W (hb : Below w.heap.size w W) i => read_calls W (h.quiet hb) i)
  have HT := Aside0.mk hr
  have H0 := Aside0.mk h0
  have H1 := Aside0.mk h1
  have HN := Aside0.mk (fun W hr => newest_calls s0 s1 W hr)
  unfold newR at HN
  rw [hn] at HN
  have HS := Aside0.mk (fun W (hb : Below w.heap.size w W) => size_calls W (h.quiet hb))
  have hw := quo4 d.lasts.length h.len
  generalize ((d.lasts.length / 4 : Nat) : Int) = q4 at *
  clear hn
  have HU := Aside0.mk (fun W hr => unpack_calls s0 W hr)
  unfold unp at HU
  rw [ho] at HU
  clear ho
  clear h hr h0 h1
  go_enter Tryd.func10, Tryd.ntmps10
  go_wp2_with fail
  go_loopg [14] 2 (fun kx v14 wr => ∃ (k : Nat) (a0 a1 : S), v14 = .int .i64 (k : Int) ∧ k ≤ 2 ∧ 2 - k ≤ kx ∧ Aside0 ((1 ≤ k → a0 = s0) ∧ (2 ≤ k → a1 = s1)) ∧ wr = w.alloc (.cells #[.string a0, .string a1] 68))
  case atStart => exact ⟨0, _, _, rfl, by omega, by omega, ⟨fun h => by omega, fun h => by omega⟩, rfl⟩
  case round =>
    obtain ⟨k, a0, a1, rfl, hk, hkx, HA, rfl⟩ := hrel
    have hk3 : k = 0 ∨ k = 1 ∨ k = 2 := by omega
    rcases hk3 with rfl | rfl | rfl
    · have HR0 := Aside0.mk (HR.out (w.alloc (.cells #[.string a0, .string a1] 68)) (below_alloc (Below.refl _ _) _) 0)
      rw [H0.out] at HR0
      clear HR
      have e0 : ((0 : Nat) : Int) = 0 := rfl
      rw [e0]
      go_wp2_with fail
      refine HR0.out.mono ?_
      rintro e w1 ⟨rfl, rfl⟩
      go_wp2_with fail
      go_roundg 1
      case measure => omega
      case rel => exact ⟨1, s0, a1, rfl, by omega, by omega, ⟨fun _ => rfl, fun h => by omega⟩, rfl⟩
    · have HR1 := Aside0.mk (HR.out (w.alloc (.cells #[.string a0, .string a1] 68)) (below_alloc (Below.refl _ _) _) 1)
      rw [H1.out] at HR1
      clear HR
      have e0 : ((1 : Nat) : Int) = 1 := rfl
      rw [e0]
      go_wp2_with fail
      refine HR1.out.mono ?_
      rintro e w1 ⟨rfl, rfl⟩
      go_wp2_with fail
      go_roundg 0
      case measure => omega
      case rel => exact ⟨2, a0, s1, rfl, by omega, by omega, ⟨fun _ => HA.out.1 (by omega), fun h => rfl⟩, rfl⟩
    · obtain rfl := HA.out.1 (by omega)
      obtain rfl := HA.out.2 (by omega)
      clear HA HR
      go_wp2_with fail
      refine (HN.out (w.alloc (.cells #[.string a0, .string a1] 68)) (HT.out.below (below_alloc (Below.refl _ _) _) HT.out.pos)).mono ?_
      rintro e w2 ⟨rfl, hb⟩
      unfold M.cells
      have HB2 := Aside0.mk (below_step (below_alloc (Below.refl w.heap.size w) (.cells #[.string a0, .string a1] 68)) hb)
      have hx := blk_below (blk_new w (.cells #[.string a0, .string a1] 68)) hb
      have HX2 := Aside0.mk hx
      clear hb
      dsimp only
      have HSq := Aside0.mk (fun nn => HS.out ((w2.alloc (.cells #[.int .i64 m.txn, .int .i64 m.root, .int .i64 m.free, .int .i64 m.pages, .int .i64 m.limit] 32)).drewN nn) (below_drewN (below_alloc HB2.out _) nn))
      go_wp2_with fail
      go_quiet ((go_at_call 29; exact Calls.quiet_of_same ((HSq.out _).mono fun e w' h => ⟨h.1, h.2.symm⟩)))
      have hx3 := blk_alloc (blk_drewN (blk_alloc hx (.cells #[.int .i64 m.txn, .int .i64 m.root, .int .i64 m.free, .int .i64 m.pages, .int .i64 m.limit] 32)) nq) (.cells #[.pointer (some ⟨g, 0, none⟩), .int .i64 m.txn, .int .i64 m.root, .int .i64 m.free, .int .i64 m.pages, .int .i64 m.limit, .int .i64 0, .int .i64 0, .int .i64 0, .int .i64 0, .int .i64 0, .bool false, .pointer none, .slice none 0 0] 71)
      have c0 := (blk_cell hx3 0).trans rfl
      have c1 := (blk_cell hx3 1).trans rfl
      clear hx hx3
      go_wp2_with fail
      refine (HU.out _ (HT.out.below (below_alloc (below_drewN (below_alloc HB2.out _) _) _) HT.out.pos)).mono ?_
      rintro e w4 ⟨rfl, hb⟩
      unfold M.cells
      have hsz : ((w2.alloc (.cells #[.int .i64 m.txn, .int .i64 m.root, .int .i64 m.free, .int .i64 m.pages, .int .i64 m.limit] 32)).drewN nq).heap.size = w2.heap.size + 1 := by simp
      have hp := blk_below (blk_new ((w2.alloc (.cells #[.int .i64 m.txn, .int .i64 m.root, .int .i64 m.free, .int .i64 m.pages, .int .i64 m.limit] 32)).drewN nq) (.cells #[.pointer (some ⟨g, 0, none⟩), .int .i64 m.txn, .int .i64 m.root, .int .i64 m.free, .int .i64 m.pages, .int .i64 m.limit, .int .i64 0, .int .i64 0, .int .i64 0, .int .i64 0, .int .i64 0, .bool false, .pointer none, .slice none 0 0] 71)) hb
      rw [hsz] at hp
      have HB4 := Aside0.mk (below_step (below_alloc (below_drewN (below_alloc HB2.out (.cells #[.int .i64 m.txn, .int .i64 m.root, .int .i64 m.free, .int .i64 m.pages, .int .i64 m.limit] 32)) nq) (.cells #[.pointer (some ⟨g, 0, none⟩), .int .i64 m.txn, .int .i64 m.root, .int .i64 m.free, .int .i64 m.pages, .int .i64 m.limit, .int .i64 0, .int .i64 0, .int .i64 0, .int .i64 0, .int .i64 0, .bool false, .pointer none, .slice none 0 0] 71)) hb)
      have hp2 := blk_alloc hp (.cells #[.int .i64 o1, .int .i64 o2, .int .i64 o3, .int .i64 o4, .int .i64 o5] 32)
      have e6 := (blk_cell hp2 6).trans rfl
      have e7 := (blk_cell hp2 7).trans rfl
      have e8 := (blk_cell hp2 8).trans rfl
      have e9 := (blk_cell hp2 9).trans rfl
      have e10 := (blk_cell hp2 10).trans rfl
      have e11 := (blk_cell hp2 11).trans rfl
      have f0 := blk_frozen hp2
      have HP2 := Aside0.mk hp2
      have HG := Aside0.mk (show w.heap.size ≤ w2.heap.size + 1 by have := HB2.out.size; omega)
      clear hb hp hp2 hsz c0 c1
      go_wp2_with fail
      go_ret2
      exact ⟨w2.heap.size + 1, rfl, ((put5_below6 (below_alloc HB4.out _) HG.out _ _ _ _ _).setCell HG.out _), HG.out, blk_put (blk_put (blk_put (blk_put (blk_put (blk_put HP2.out 6 _ rfl) 7 _ rfl) 8 _ rfl) 9 _ rfl) 10 _ rfl) 11 _ rfl⟩
set_option maxHeartbeats 2000000 in
set_option maxRecDepth 100000 in
theorem open_1_no (h : DAt w ok g d y) (hr : RowAt w) (s0 s1 : S) (h0 : d.read 0 = (s0, 0)) (h1 : d.read 1 = (s1, 0)) (m : M) (hn : newest crcSum s0 s1 = some (m, 1)) (ho : unpack crcSum s0 = none) (hl : ¬ ((d.lasts.length / 4 : Nat) : Int) < m.limit) : Calls Tryd.prog 10 #[.pointer (some ⟨g, 0, none⟩)] w (fun e w' => ∃ gp, e = .returned (.tuple #[.pointer (some ⟨gp, 0, none⟩), .int .i64 0]) ∧ Below w.heap.size w w' ∧ w.heap.size ≤ gp ∧ w'.heap[gp]? = some (.cells (G.cells ⟨m, M.zero, false, none⟩ g (.pointer none)) 71 (0, 0))) := by
  have HD := Aside0.mk (fun W (hb : Below w.heap.size w W) => h.quiet hb)
  have HR := Aside0.mk (fun W (hb : Below w.heap.size w W) i => read_calls W (h.quiet hb) i)
  have HT := Aside0.mk hr
  have H0 := Aside0.mk h0
  have H1 := Aside0.mk h1
  have HN := Aside0.mk (fun W hr => newest_calls s0 s1 W hr)
  unfold newR at HN
  rw [hn] at HN
  have HS := Aside0.mk (fun W (hb : Below w.heap.size w W) => size_calls W (h.quiet hb))
  have hw := quo4 d.lasts.length h.len
  generalize ((d.lasts.length / 4 : Nat) : Int) = q4 at *
  clear hn
  have HU := Aside0.mk (fun W hr => unpack_calls s0 W hr)
  unfold unp at HU
  rw [ho] at HU
  clear ho
  clear h hr h0 h1
  go_enter Tryd.func10, Tryd.ntmps10
  go_wp2_with fail
  go_loopg [14] 2 (fun kx v14 wr => ∃ (k : Nat) (a0 a1 : S), v14 = .int .i64 (k : Int) ∧ k ≤ 2 ∧ 2 - k ≤ kx ∧ Aside0 ((1 ≤ k → a0 = s0) ∧ (2 ≤ k → a1 = s1)) ∧ wr = w.alloc (.cells #[.string a0, .string a1] 68))
  case atStart => exact ⟨0, _, _, rfl, by omega, by omega, ⟨fun h => by omega, fun h => by omega⟩, rfl⟩
  case round =>
    obtain ⟨k, a0, a1, rfl, hk, hkx, HA, rfl⟩ := hrel
    have hk3 : k = 0 ∨ k = 1 ∨ k = 2 := by omega
    rcases hk3 with rfl | rfl | rfl
    · have HR0 := Aside0.mk (HR.out (w.alloc (.cells #[.string a0, .string a1] 68)) (below_alloc (Below.refl _ _) _) 0)
      rw [H0.out] at HR0
      clear HR
      have e0 : ((0 : Nat) : Int) = 0 := rfl
      rw [e0]
      go_wp2_with fail
      refine HR0.out.mono ?_
      rintro e w1 ⟨rfl, rfl⟩
      go_wp2_with fail
      go_roundg 1
      case measure => omega
      case rel => exact ⟨1, s0, a1, rfl, by omega, by omega, ⟨fun _ => rfl, fun h => by omega⟩, rfl⟩
    · have HR1 := Aside0.mk (HR.out (w.alloc (.cells #[.string a0, .string a1] 68)) (below_alloc (Below.refl _ _) _) 1)
      rw [H1.out] at HR1
      clear HR
      have e0 : ((1 : Nat) : Int) = 1 := rfl
      rw [e0]
      go_wp2_with fail
      refine HR1.out.mono ?_
      rintro e w1 ⟨rfl, rfl⟩
      go_wp2_with fail
      go_roundg 0
      case measure => omega
      case rel => exact ⟨2, a0, s1, rfl, by omega, by omega, ⟨fun _ => HA.out.1 (by omega), fun h => rfl⟩, rfl⟩
    · obtain rfl := HA.out.1 (by omega)
      obtain rfl := HA.out.2 (by omega)
      clear HA HR
      go_wp2_with fail
      refine (HN.out (w.alloc (.cells #[.string a0, .string a1] 68)) (HT.out.below (below_alloc (Below.refl _ _) _) HT.out.pos)).mono ?_
      rintro e w2 ⟨rfl, hb⟩
      unfold M.cells
      have HB2 := Aside0.mk (below_step (below_alloc (Below.refl w.heap.size w) (.cells #[.string a0, .string a1] 68)) hb)
      have hx := blk_below (blk_new w (.cells #[.string a0, .string a1] 68)) hb
      have HX2 := Aside0.mk hx
      clear hb
      dsimp only
      have HSq := Aside0.mk (fun nn => HS.out ((w2.alloc (.cells #[.int .i64 m.txn, .int .i64 m.root, .int .i64 m.free, .int .i64 m.pages, .int .i64 m.limit] 32)).drewN nn) (below_drewN (below_alloc HB2.out _) nn))
      go_wp2_with fail
      go_quiet ((go_at_call 29; exact Calls.quiet_of_same ((HSq.out _).mono fun e w' h => ⟨h.1, h.2.symm⟩)))
      have hx3 := blk_alloc (blk_drewN (blk_alloc hx (.cells #[.int .i64 m.txn, .int .i64 m.root, .int .i64 m.free, .int .i64 m.pages, .int .i64 m.limit] 32)) nq) (.cells #[.pointer (some ⟨g, 0, none⟩), .int .i64 m.txn, .int .i64 m.root, .int .i64 m.free, .int .i64 m.pages, .int .i64 m.limit, .int .i64 0, .int .i64 0, .int .i64 0, .int .i64 0, .int .i64 0, .bool false, .pointer none, .slice none 0 0] 71)
      have c0 := (blk_cell hx3 0).trans rfl
      have c1 := (blk_cell hx3 1).trans rfl
      clear hx hx3
      go_wp2_with fail
      refine (HU.out _ (HT.out.below (below_alloc (below_drewN (below_alloc HB2.out _) _) _) HT.out.pos)).mono ?_
      rintro e w4 ⟨rfl, hb⟩
      unfold M.cells
      have hsz : ((w2.alloc (.cells #[.int .i64 m.txn, .int .i64 m.root, .int .i64 m.free, .int .i64 m.pages, .int .i64 m.limit] 32)).drewN nq).heap.size = w2.heap.size + 1 := by simp
      have hp := blk_below (blk_new ((w2.alloc (.cells #[.int .i64 m.txn, .int .i64 m.root, .int .i64 m.free, .int .i64 m.pages, .int .i64 m.limit] 32)).drewN nq) (.cells #[.pointer (some ⟨g, 0, none⟩), .int .i64 m.txn, .int .i64 m.root, .int .i64 m.free, .int .i64 m.pages, .int .i64 m.limit, .int .i64 0, .int .i64 0, .int .i64 0, .int .i64 0, .int .i64 0, .bool false, .pointer none, .slice none 0 0] 71)) hb
      rw [hsz] at hp
      have HB4 := Aside0.mk (below_step (below_alloc (below_drewN (below_alloc HB2.out (.cells #[.int .i64 m.txn, .int .i64 m.root, .int .i64 m.free, .int .i64 m.pages, .int .i64 m.limit] 32)) nq) (.cells #[.pointer (some ⟨g, 0, none⟩), .int .i64 m.txn, .int .i64 m.root, .int .i64 m.free, .int .i64 m.pages, .int .i64 m.limit, .int .i64 0, .int .i64 0, .int .i64 0, .int .i64 0, .int .i64 0, .bool false, .pointer none, .slice none 0 0] 71)) hb)
      have hp2 := blk_alloc hp (.cells #[.int .i64 0, .int .i64 0, .int .i64 0, .int .i64 0, .int .i64 0] 32)
      have e6 := (blk_cell hp2 6).trans rfl
      have e7 := (blk_cell hp2 7).trans rfl
      have e8 := (blk_cell hp2 8).trans rfl
      have e9 := (blk_cell hp2 9).trans rfl
      have e10 := (blk_cell hp2 10).trans rfl
      have e11 := (blk_cell hp2 11).trans rfl
      have f0 := blk_frozen hp2
      have HP2 := Aside0.mk hp2
      have HG := Aside0.mk (show w.heap.size ≤ w2.heap.size + 1 by have := HB2.out.size; omega)
      clear hb hp hp2 hsz c0 c1
      go_wp2_with fail
      go_ret2
      exact ⟨w2.heap.size + 1, rfl, below_alloc HB4.out _, HG.out, HP2.out⟩
set_option maxHeartbeats 2000000 in
set_option maxRecDepth 100000 in
theorem open_short (h : DAt w ok g d y) (hr : RowAt w) (s0 s1 : S) (h0 : d.read 0 = (s0, 0)) (c : Int) (hc : c ≠ 0) (h1 : d.read 1 = (s1, c))  : Calls Tryd.prog 10 #[.pointer (some ⟨g, 0, none⟩)] w (fun e w' => e = .returned (.tuple #[.pointer none, .int .i64 c]) ∧ Below w.heap.size w w') := by
  have HD := Aside0.mk (fun W (hb : Below w.heap.size w W) => h.quiet hb)
  have HR := Aside0.mk (fun W (hb : Below w.heap.size w W) i => read_calls W (h.quiet hb) i)
  have HT := Aside0.mk hr
  have H0 := Aside0.mk h0
  have H1 := Aside0.mk h1
  have hc1 : (c == 0) = false := beq_eq_false_iff_ne.mpr hc
  clear h hr h0 h1
  go_enter Tryd.func10, Tryd.ntmps10
  go_wp2_with fail
  go_loopg [14] 2 (fun kx v14 wr => ∃ (k : Nat) (a0 a1 : S), v14 = .int .i64 (k : Int) ∧ k ≤ 1 ∧ 2 - k ≤ kx ∧ Aside0 ((1 ≤ k → a0 = s0) ∧ (2 ≤ k → a1 = s1)) ∧ wr = w.alloc (.cells #[.string a0, .string a1] 68))
  case atStart => exact ⟨0, _, _, rfl, by omega, by omega, ⟨fun h => by omega, fun h => by omega⟩, rfl⟩
  case round =>
    obtain ⟨k, a0, a1, rfl, hk, hkx, HA, rfl⟩ := hrel
    have hk3 : k = 0 ∨ k = 1 := by omega
    rcases hk3 with rfl | rfl
    · have HR0 := Aside0.mk (HR.out (w.alloc (.cells #[.string a0, .string a1] 68)) (below_alloc (Below.refl _ _) _) 0)
      rw [H0.out] at HR0
      clear HR
      have e0 : ((0 : Nat) : Int) = 0 := rfl
      rw [e0]
      go_wp2_with fail
      refine HR0.out.mono ?_
      rintro e w1 ⟨rfl, rfl⟩
      go_wp2_with fail
      go_roundg 1
      case measure => omega
      case rel => exact ⟨1, s0, a1, rfl, by omega, by omega, ⟨fun _ => rfl, fun h => by omega⟩, rfl⟩
    · have HR1 := Aside0.mk (HR.out (w.alloc (.cells #[.string a0, .string a1] 68)) (below_alloc (Below.refl _ _) _) 1)
      rw [H1.out] at HR1
      clear HR
      have e0 : ((1 : Nat) : Int) = 1 := rfl
      rw [e0]
      go_wp2_with fail
      refine HR1.out.mono ?_
      rintro e w1 ⟨rfl, rfl⟩
      go_wp2_with fail
      go_ret2
      exact ⟨rfl, below_alloc (Below.refl _ _) _⟩
/-- What Open answers. -/
def OpenPost (g : Nat) (r : Option G × Int) (w : World) (e : Ending) (w' : World) : Prop := match r with
  | (none, c) => e = .returned (.tuple #[.pointer none, .int .i64 c]) ∧ Below w.heap.size w w'
  | (some p, _) => ∃ gp, e = .returned (.tuple #[.pointer (some ⟨gp, 0, none⟩), .int .i64 0]) ∧ Below w.heap.size w w' ∧ w.heap.size ≤ gp ∧ w'.heap[gp]? = some (.cells (G.cells p g (.pointer none)) 71 (0, 0))
theorem open_calls (h : DAt w ok g d y) (hr : RowAt w) (s0 : S) (h0 : d.read 0 = (s0, 0)) : Calls Tryd.prog 10 #[.pointer (some ⟨g, 0, none⟩)] w (OpenPost g (opened crcSum d) w) := by
  obtain ⟨s1, c, h1⟩ : ∃ s1 c, d.read 1 = (s1, c) := ⟨_, _, rfl⟩
  unfold opened
  rw [h0, h1, if_neg (fun h => h rfl)]
  dsimp only
  by_cases hc : c = 0
  · subst hc
    rw [if_neg (fun h => h rfl)]
    cases hn : newest crcSum s0 s1 with
    | none => exact open_bad h hr s0 s1 h0 h1 hn
    | some mk =>
      obtain ⟨m, k⟩ := mk
      dsimp only
      by_cases hl : ((d.lasts.length / 4 : Nat) : Int) < m.limit
      · rw [if_pos hl]
        exact open_big h hr s0 s1 h0 h1 m k hn hl
      · rw [if_neg hl]
        have hk := (newest_right hn).2
        have hk2 : k = 0 ∨ k = 1 := by omega
        rcases hk2 with rfl | rfl
        · rw [if_pos rfl]
          cases ho : unpack crcSum s1 with
          | none => exact open_0_no h hr s0 s1 h0 h1 m hn ho hl
          | some o => exact open_0_yes h hr s0 s1 h0 h1 m o.txn o.root o.free o.pages o.limit hn ho hl
        · rw [if_neg (by omega)]
          cases ho : unpack crcSum s0 with
          | none => exact open_1_no h hr s0 s1 h0 h1 m hn ho hl
          | some o => exact open_1_yes h hr s0 s1 h0 h1 m o.txn o.root o.free o.pages o.limit hn ho hl
  · rw [if_pos hc]
    exact open_short h hr s0 s1 h0 c hc h1
end
end Go.Proofs.YtjbkkmgkckopdaaDoor.Pg
