import Derived.Test.YtjbkkmgkckopdaaNodeH
import Derived.WalkKit
import Derived.Deep.LoopGhost
import Derived.Deep.Draws
import Derived.Deep.QuietTactic
namespace Go.Proofs.Ytjbkkmgkckopdaa.Pure
open Go.RowKit Go.Proofs.Ytjbkkmgkckopdaa.PN Go.Proofs.YtjbkkmgkckopdaaW.PrintWords Go.Proofs.YtjbkkmgkckopdaaW.PrintLast
set_option linter.unusedVariables false
set_option linter.unusedSimpArgs false

/-- The first place in [0, n) at which p holds, or n. -/
def cut (p : Nat → Bool) (n c : Nat) : Prop := c ≤ n ∧ (∀ t, t < c → p t = false) ∧ (∀ t, c ≤ t → t < n → p t = true)

set_option maxHeartbeats 4000000 in
set_option maxRecDepth 1000000 in
theorem search_calls (g : Nat) (cb : Array Value) (n : Nat) (p : Nat → Bool) (w : World) (eg : ∀ args w, (callFunc g args).run Try.prog w = .ok (.enter g args) w) (hsz : n < 4611686018427387904)
    (hf : ∀ (w1 : World), Below w.heap.size w w1 → ∀ (i : Nat), i < n → Calls Try.prog g (#[.int .i64 i] ++ cb) w1 fun e w' => e = .returned (.bool (p i)) ∧ Below w1.heap.size w1 w')
    (hmono : ∀ a b, a ≤ b → b < n → p a = true → p b = true) :
    Calls Try.prog 93 #[.int .i64 n, .func (.func g) #[] cb] w fun e w' => ∃ c, e = .returned (.int .i64 (c : Nat)) ∧ cut p n c ∧ Below w.heap.size w w' := by
  have HF := Aside0.mk hf
  have M := Aside0.mk hmono
  clear hf hmono
  go_enter Try.func93, Try.ntmps93
  go_wp2
  go_loopg [5, 6] n (fun kx s5 s6 wr => ∃ (lo hi : Nat), s5 = .int .i64 lo ∧ s6 = .int .i64 hi ∧ lo ≤ hi ∧ hi ≤ n ∧ hi - lo ≤ kx ∧ Below w.heap.size w wr ∧
    Aside0 ((∀ t, t < lo → p t = false) ∧ (∀ t, hi ≤ t → t < n → p t = true)))
  case atStart => exact ⟨0, n, rfl, rfl, Nat.zero_le _, Nat.le_refl _, by omega, Below.refl _ _, Aside0.mk ⟨fun t ht => absurd ht (Nat.not_lt_zero _), fun t h1 h2 => by omega⟩⟩
  case round =>
    obtain ⟨lo, hi, rfl, rfl, hlh, hin, hg, hb, I⟩ := hrel
    by_cases hlt : lo < hi
    · have hc := fun (w1 : World) (hb1 : Below w.heap.size w w1) => HF.out w1 hb1 ((lo + hi) / 2) (by omega)
      have em : (((lo + hi) / 2 : Nat) : Int) = ((lo : Int) + (hi : Int)) / 2 := by omega
      rw [em] at hc
      cases hp : p ((lo + hi) / 2) <;> rw [hp] at hc
      · have HP := Aside0.mk hp
        clear hp
        go_wp2_with fail
        refine (hc _ hb).mono ?_
        rintro e w' ⟨rfl, hb2⟩
        go_wp2_with fail
        go_roundg (hi - ((lo + hi) / 2 + 1))
        case measure => omega
        case rel =>
          have I2 : Aside0 ((∀ t, t < (lo + hi) / 2 + 1 → p t = false) ∧ (∀ t, hi ≤ t → t < n → p t = true)) := Aside0.mk ⟨fun t ht => (by
            cases h : p t with
            | false => rfl
            | true => have := M.out t ((lo + hi) / 2) (by omega) (by omega) h; rw [HP.out] at this; cases this), I.out.2⟩
          exact ⟨(lo + hi) / 2 + 1, hi, by rw [show ((lo : Int) + (hi : Int)) / 2 + 1 = (((lo + hi) / 2 + 1 : Nat) : Int) by omega], rfl, by omega, hin, Nat.le_refl _, below_step hb hb2, I2⟩
      · have HP := Aside0.mk hp
        clear hp
        go_wp2_with fail
        refine (hc _ hb).mono ?_
        rintro e w' ⟨rfl, hb2⟩
        go_wp2_with fail
        go_roundg ((lo + hi) / 2 - lo)
        case measure => omega
        case rel =>
          have I2 : Aside0 ((∀ t, t < lo → p t = false) ∧ (∀ t, (lo + hi) / 2 ≤ t → t < n → p t = true)) := Aside0.mk ⟨I.out.1, fun t ht htn => M.out ((lo + hi) / 2) t ht htn HP.out⟩
          exact ⟨lo, (lo + hi) / 2, rfl, by rw [show ((lo : Int) + (hi : Int)) / 2 = (((lo + hi) / 2 : Nat) : Int) by omega], by omega, by omega, Nat.le_refl _, below_step hb hb2, I2⟩
    · obtain rfl : hi = lo := by omega
      go_wp2
      go_ret
      exact ⟨hi, rfl, ⟨hin, I.out.1, I.out.2⟩, hb⟩
theorem put5_blk {W : World} {g : Nat} {a0 a1 a2 a3 a4 : Value} (h : W.heap[g]? = some (.cells #[a0, a1, a2, a3, a4] 35 (0, 0))) (c0 c1 c2 c3 c4 : Value) :
    (((((W.setCell ⟨g, 0, none⟩ c0).setCell ⟨g, 1, none⟩ c1).setCell ⟨g, 2, none⟩ c2).setCell ⟨g, 3, none⟩ c3).setCell ⟨g, 4, none⟩ c4).heap[g]? = some (.cells #[c0, c1, c2, c3, c4] 35 (0, 0)) :=
  blk_put (blk_put (blk_put (blk_put (blk_put h 0 c0 rfl) 1 c1 rfl) 2 c2 rfl) 3 c3 rfl) 4 c4 rfl
theorem put5_below {w W : World} {g : Nat} (h : Below w.heap.size w W) (hg : w.heap.size ≤ g) (c0 c1 c2 c3 c4 : Value) :
    Below w.heap.size w (((((W.setCell ⟨g, 0, none⟩ c0).setCell ⟨g, 1, none⟩ c1).setCell ⟨g, 2, none⟩ c2).setCell ⟨g, 3, none⟩ c3).setCell ⟨g, 4, none⟩ c4) :=
  below_set (below_set (below_set (below_set (below_set h hg) hg) hg) hg) hg
theorem put5_far {W : World} {g : Nat} {a : Addr} {v : Value} (h : W.cell? a = some v) (hne : a.block ≠ g) (c0 c1 c2 c3 c4 : Value) :
    (((((W.setCell ⟨g, 0, none⟩ c0).setCell ⟨g, 1, none⟩ c1).setCell ⟨g, 2, none⟩ c2).setCell ⟨g, 3, none⟩ c3).setCell ⟨g, 4, none⟩ c4).cell? a = some v := by
  rw [cell_far hne, cell_far hne, cell_far hne, cell_far hne, cell_far hne]; exact h

set_option maxHeartbeats 4000000 in
set_option maxRecDepth 1000000 in
theorem closure_calls (leaf : Bool) (l : List S35) (hr : rightB leaf l = true) (ht : tot leaf l ≤ 488) (key : ByteArray) (i : Nat) (hi : i < l.length) (b1 b2 b3 : Nat) (w : World)
    (h1 : w.cell? ⟨b1, 0, none⟩ = some (.bool leaf)) (h2 : w.cell? ⟨b2, 0, none⟩ = some (.string (ba (encL leaf l)))) (h3 : w.cell? ⟨b3, 0, none⟩ = some (.string key)) :
    Calls Try.prog 94 #[.int .i64 i, .pointer (some ⟨b1, 0, none⟩), .pointer (some ⟨b2, 0, none⟩), .pointer (some ⟨b3, 0, none⟩)] w fun e w' => e = .returned (.bool (!(Op.bytesLess l[i].f0.toList key.toList))) ∧ Below w.heap.size w w' := by
  have hu35 := Try.underlying35
  obtain ⟨k, hk⟩ := Ev.rounds (get_rt leaf l hr ht i hi)
  generalize ba (encL leaf l) = s at h2 hk
  generalize l[i] = c at hk ⊢
  have HK := Aside0.mk hk
  clear hk
  go_enter Try.func94, Try.ntmps94
  go_wp2_with fail
  refine (node_get.calls k leaf s i _ _ _ _ _ _ _ HK.out).mono ?_
  rintro e w1 ⟨rfl, hb⟩
  have h31 : w1.cell? ⟨b3, 0, none⟩ = some (.string key) := (hb.cell (World.block_lt_of_cell? _ _ h3)).trans h3
  clear h3
  have hb3 : b3 < w1.heap.size := World.block_lt_of_cell? _ _ h31
  have hsz := below_size hb
  go_wp2_with (first | ((with_reducible refine gate_dst (N := 6) rfl ?_); refine box_event ?hg (N := 6) ?hd (cs := #[.string (⟨#[]⟩ : ByteArray), .string (⟨#[]⟩ : ByteArray), .int .i64 0, .int .i64 0, .int .i64 0]) (t := 35) ?hr ?_; (case hd => rfl); (case hg => rfl); (case hr => first | (go_simp; done) | (go_simp; rfl)); intro g hg w2 hbox hb2; have HB := Aside0.mk (below_step hb hb2); have H3 := Aside0.mk ((hb2.cell hb3).trans h31 : w2.cell? ⟨b3, 0, none⟩ = some (.string key)); have GE := Aside0.mk (by omega : w.heap.size ≤ g); have GN := Aside0.mk (by omega : b3 ≠ g); have BX := Aside0.mk hbox; clear hg hbox hb2 h31; have z0 : w2.cell? ⟨g, 0, none⟩ = some (.string (⟨#[]⟩ : ByteArray)) := (blk_cell BX.out 0).trans rfl; have z1 : w2.cell? ⟨g, 1, none⟩ = some (.string (⟨#[]⟩ : ByteArray)) := (blk_cell BX.out 1).trans rfl; have z2 : w2.cell? ⟨g, 2, none⟩ = some (.int .i64 0) := (blk_cell BX.out 2).trans rfl; have z3 : w2.cell? ⟨g, 3, none⟩ = some (.int .i64 0) := (blk_cell BX.out 3).trans rfl; have z4 : w2.cell? ⟨g, 4, none⟩ = some (.int .i64 0) := (blk_cell BX.out 4).trans rfl; have f0 := blk_frozen BX.out 0; have f1 := blk_frozen BX.out 1; have f2 := blk_frozen BX.out 2; have f3 := blk_frozen BX.out 3; have f4 := blk_frozen BX.out 4) | ((with_reducible refine gate_store (t := 35) (p := 6) rfl ?_); refine store_event rfl (t := 35) (p := 6) rfl rfl (by go_simp; rfl) ?_; intro w3 hw3; have HB3 := Aside0.mk (by rw [hw3]; exact put5_below HB.out GE.out _ _ _ _ _ : Below w.heap.size w w3); have h33 : w3.cell? ⟨b3, 0, none⟩ = some (.string key) := (by rw [hw3]; exact put5_far H3.out GN.out _ _ _ _ _); have hbox3 := put5_blk BX.out (.string c.f0) (.string c.f1) (.int .i64 c.f2) (.int .i64 c.f3) (.int .i64 c.f4); rw [← hw3] at hbox3; have y0 : w3.cell? ⟨g, 0, none⟩ = some (.string c.f0) := (blk_cell hbox3 0).trans rfl; clear hbox3 hw3))
  go_ret
  exact ⟨rfl, HB3.out⟩
end Go.Proofs.Ytjbkkmgkckopdaa.Pure
