/- The device and the reference side by side. -/
import Derived.Test.YtjbkkmgkckopdaaDevRG
import Derived.Test.YtjbkkmgkckopdaaDevN
import Derived.Test.YtjbkkmgkckopdaaDevO
namespace Go.Proofs.Ytjbkkmgkckopdaa.Dv
open Go.RowKit Go.Proofs.YtjbkkmgkckopdaaW.PrintWords Go.Proofs.YtjbkkmgkckopdaaW.PrintLast Go.Proofs.YtjbkkmgkckopdaaW.PrintMore Go.Proofs.Ytjbkkmgkckopdaa.Mem
set_option linter.unusedVariables false
set_option linter.unusedSimpArgs false
/-- Device and reference, in new memory, apart. -/
structure Both (w0 w : World) (g : Nat) (d : D) (ge : Nat) (r : E) : Prop where
  at_ : ∃ okD okE yD yE, DAt w okD g d yD ∧ EAt w okE ge r yE ∧ (∀ k, okD k → w0.heap.size ≤ k) ∧ (∀ k, okE k → w0.heap.size ≤ k) ∧ (∀ k, okD k → ¬ okE k) ∧ (∀ k, okD k → k < w.heap.size) ∧ (∀ k, okE k → k < w.heap.size)
  below : Below w0.heap.size w0 w
section
variable {w0 w w' : World} {g ge : Nat} {d d' : D} {r r' : E}
theorem Both.dev (h : Both w0 w g d ge r) : Dev w0 w g d := by
  obtain ⟨okD, okE, yD, yE, h1, h2, h3, h4, h5, h6, h7⟩ := h.at_
  exact ⟨⟨yD, h1.move (fun _ _ _ => rfl) (fun k hk _ => h3 k hk)⟩, h.below⟩
theorem Both.ref (h : Both w0 w g d ge r) : ∃ ok y, EAt w ok ge r y := by
  obtain ⟨okD, okE, yD, yE, h1, h2, h3, h4, h5, h6, h7⟩ := h.at_
  exact ⟨okE, yE, h2⟩
theorem Both.quiet (h : Both w0 w g d ge r) (hb : Below w.heap.size w w') : Both w0 w' g d ge r := by
  obtain ⟨okD, okE, yD, yE, h1, h2, h3, h4, h5, h6, h7⟩ := h.at_
  have hs := hb.size
  exact ⟨⟨okD, okE, yD, yE, h1.quiet hb, h2.quiet hb, h3, h4, h5, fun k hk => Nat.lt_of_lt_of_le (h6 k hk) hs, fun k hk => Nat.lt_of_lt_of_le (h7 k hk) hs⟩, h.below.trans (hb.mono h.below.size)⟩
theorem IntsAt.apart {p : Option Addr} {xs : List Int} (h : IntsAt w0 p xs) (hb : Below w0.heap.size w0 w) {ok : Nat → Prop} (hk : ∀ k, ok k → w0.heap.size ≤ k) : Ints w ok p xs := fun j hj => by
  obtain ⟨a, h1, h2, h3⟩ := h.ints hb j hj
  exact ⟨a, h1, h2, fun h4 => h3 (hk _ h4)⟩
/-- The device has done an act. -/
def Done (w0 : World) (g : Nat) (d : D) (ge : Nat) (r : E) (v : Value) (e : Ending) (w' : World) : Prop := e = .returned v ∧ Both w0 w' g d ge r
theorem Both.does (h : Both w0 w g d ge r) (a : A) (p : Option Addr) (pc : Nat) (hp : ActOk w0 a p) {k : Nat} (hbd : Bd d k) (hk : k < 1000000) : Calls Try.prog 50 #[.pointer (some ⟨g, 0, none⟩), .agg (a.cells p pc)] w (Done w0 g (d.act a).1 ge r (.int .i64 (d.act a).2)) := by
  obtain ⟨okD, okE, yD, yE, h1, h2, h3, h4, h5, h6, h7⟩ := h.at_
  refine (does_calls w h1 a p pc (hp.1.apart h.below h3) hp.2.2 hbd hk).mono ?_
  rintro e w' ⟨he, ⟨y, hy⟩, ht⟩
  have hs := h.below.size
  have hs2 := ht.size
  refine ⟨he, ⟨⟨_, okE, y, yE, hy.narrow, h2.move (fun k hk hl => ht.block k hl (fun h8 => h5 k h8 hk)) (fun k hk _ => hk), ?_, h4, ?_, fun k hk => hk.2, fun k hk => Nat.lt_of_lt_of_le (h7 k hk) hs2⟩, h.below.trans (ht.below (fun k _ h => h3 k h) hs)⟩⟩
  · rintro k ⟨hk | hk, _⟩
    · exact h3 k hk
    · exact Nat.le_trans hs hk
  · rintro k ⟨hk | hk, _⟩ h8
    · exact h5 k hk h8
    · have := h7 k h8; omega
theorem Both.means (h : Both w0 w g d ge r) (a : A) (p : Option Addr) (pc : Nat) (hp : ActOk w0 a p) {k : Nat} (hbd : EBd r k) (hk : k < 1000000) : Calls Try.prog 63 #[.pointer (some ⟨ge, 0, none⟩), .agg (a.cells p pc)] w (Done w0 g d ge (r.act a).1 (.int .i64 (r.act a).2)) := by
  obtain ⟨okD, okE, yD, yE, h1, h2, h3, h4, h5, h6, h7⟩ := h.at_
  refine (means_calls w h2 a p pc (hp.1.apart h.below h4) hp.2.2 hbd hk).mono ?_
  rintro e w' ⟨he, ⟨y, hy⟩, ht⟩
  have hs := h.below.size
  have hs2 := ht.size
  refine ⟨he, ⟨⟨okD, _, yD, y, h1.move (fun k hk hl => ht.block k hl (fun h8 => h5 k hk h8)) (fun k hk _ => hk), hy.narrow, h3, ?_, ?_, fun k hk => Nat.lt_of_lt_of_le (h6 k hk) hs2, fun k hk => hk.2⟩, h.below.trans (ht.below (fun k _ h => h4 k h) hs)⟩⟩
  · rintro k ⟨hk | hk, _⟩
    · exact h4 k hk
    · exact Nat.le_trans hs hk
  · rintro k h8 ⟨hk | hk, _⟩
    · exact h5 k h8 hk
    · have := h6 k h8; omega
theorem Both.ewaits (h : Both w0 w g d ge r) (i : Int) : Calls Try.prog 66 #[.pointer (some ⟨ge, 0, none⟩), .int .i64 i] w (Say (.int .i64 (r.wait i)) w) := by
  obtain ⟨ok, y, hy⟩ := h.ref
  exact ewaits_calls w hy i
theorem Both.eread (h : Both w0 w g d ge r) (i : Int) : Calls Try.prog 65 #[.pointer (some ⟨ge, 0, none⟩), .int .i64 i] w (Say (.tuple #[.string (r.read i).1, .int .i64 (r.read i).2]) w) := by
  obtain ⟨ok, y, hy⟩ := h.ref
  exact eread_calls w hy i
theorem Both.cells (h : Both w0 w g d ge r) : ∃ L cap, w.cell? ⟨ge, 0, none⟩ = some (.slice (some ⟨L, 0, none⟩) r.sector.length cap) ∧ w.cell? ⟨ge, 2, none⟩ = some (.bool r.off) ∧ w.cell? ⟨ge, 4, none⟩ = some (.int .i64 r.count) ∧ w.cell? ⟨ge, 5, none⟩ = some (.int .i64 r.wrote) ∧
    ∀ j (hj : j < r.sector.length), w.cell? ⟨L, j, none⟩ = some (.string r.sector[j]) := by
  obtain ⟨ok, y, hy⟩ := h.ref
  exact ⟨y.L, y.cap, hy.z0, hy.z2, hy.z4, hy.z5, fun j hj => hy.sec.cell j hj⟩
/-- Both are made. -/
theorem both_new {n : Nat} (h1 : 1 ≤ n) (hn : n ≤ 2048) (h : Dev w0 w g d) : Calls Try.prog 61 #[.int .i64 (n : Int)] w (fun e w' => ∃ ge, e = .returned (.tuple #[.pointer (some ⟨ge, 0, none⟩), .int .i64 0]) ∧ Both w0 w' g d ge (efresh n)) := by
  obtain ⟨⟨y, hy⟩, hb⟩ := h
  refine (enew_calls n h1 hn w).mono ?_
  rintro e w' ⟨ge, ye, rfl, he, hb2⟩
  have hs := hb.size
  have hs2 := hb2.size
  refine ⟨ge, rfl, ⟨⟨_, _, y, ye, hy.narrow.quiet hb2, he.narrow, fun k hk => hk.1, fun k hk => Nat.le_trans hs hk.1, fun k hk hk2 => ?_, fun k hk => Nat.lt_of_lt_of_le hk.2 hs2, fun k hk => hk.2⟩, hb.trans (hb2.mono hs)⟩⟩
  have := hk.2
  have := hk2.1
  omega
end
theorem len_act (d : D) (a : A) : (d.act a).1.lasts.length = d.lasts.length := by
  obtain ⟨k1, k2, _⟩ := step_keeps d
  unfold D.act D.write D.sync D.fused D.cut D.start
  repeat' split
  all_goals simp [k1, settle, start_len]
end Go.Proofs.Ytjbkkmgkckopdaa.Dv
