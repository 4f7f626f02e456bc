/- rollbooklaw05.PagerCommits: a commit with a fuse, a loss of power and a start leaves the old meta or the new; the crc table (rollbook/crc.row) is tied to the program's text. -/
import Derived.Test.YtjbkkmgkckopdaaDoorRows
import Derived.Test.YtjbkkmgkckopdaaDoorCards
import Derived.Test.YtjbkkmgkckopdaaDoorTie
import Derived.Test.YtjbkkmgkckopdaaDoorLaid
import Derived.SevenTiedAt
import Derived.Test.YtjbkkmgkckopdaaDoorCommits
import Derived.WalkKit
import Derived.ProofKit
import Derived.OpenShut
import Derived.ShutString
import Derived.ChangeOld
import Derived.Below
import Derived.SizedLaws
import Derived.Carry
import Derived.Deep.Slices
import Derived.Deep.Fields
import Derived.ChangeSame
namespace Go.Proofs.YtjbkkmgkckopdaaDoor.pagerCommits
open Go.ChangeShapes Go.WideShapes Go.ChangeAt Go.RowKit Go.Deep
open Go.ChangeMaps (open_string shut_string)
set_option linter.unusedVariables false
set_option maxRecDepth 100000 in
theorem lifted (os : Os) (started : os.Started) (H : Type) (enc : TypeId × Value → H) :
    ReturnsInHanded {} Tryd.checked os 6 .any (fun w args => (Rows.pagerCommitsSpec.pre enc Tryd.prog Tryd.f6 [] false w args ∧ laidMetH Tryd.prog Pg.laidRow w) ∧ sizedMet enc Tryd.prog Tryd.f6 (OpenSpec.ofChange Rows.pagerCommitsSpec) false w args)
      (Rows.pagerCommitsSpec.post enc Tryd.prog Tryd.f6 false true false false) := by
  refine returnsInHanded_of_change_and (C := Tryd.checked) (X := fun w _ => laidMetH Tryd.prog Pg.laidRow w) (fun _ _ _ hh h => h.of_heap hh) Pg.own started (by kernel_rfl) Tryd.func6
    (ChangeSpec.witness_shaped (enc := enc) (C := Tryd.checked) (os := os) (X := fun w _ => laidMetH Tryd.prog Pg.laidRow w) false (World.doorLaid Tryd.prog 14 os) #[.int .i64 0, .int .i64 0, .int .i64 0, .slice none 0 0] 8 rfl (World.shaped_of_RefB (by kernel_rfl) (by kernel_rfl)) (by kernel_rfl) (by kernel_rfl) (by kernel_rfl) (Pg.door_met os _)) ?_
  intro W base args ds gs before hval0 hW hcnd hsz0 hL _
  have hR := Pg.row_of_laid hL
  have hval : ∀ (j : Nat) t v, Tryd.f6.params[j]? = some t → args[j]? = some v → Value.okWide Tryd.prog W .any base t v := hval0
  have hW' := hW
  obtain ⟨p, q, hA0, hV, rfl, hfz, hnd⟩ := hW
  have hA : DataW.TrodAll enc Tryd.prog W 0 (fun _ => true) true Tryd.f6.params.toList args.toList ds p := hA0
  rw [Tryd.params6] at hA hval
  obtain ⟨v0, vs0, d0, ds0, p0, q0, hargs, rfl, rfl, h0, r0⟩ := trodAll_cons hA
  obtain ⟨v1, vs1, d1, ds1, p1, q1, rfl, rfl, rfl, h1, r1⟩ := trodAll_cons r0
  obtain ⟨v2, vs2, d2, ds2, p2, q2, rfl, rfl, rfl, h2, r2⟩ := trodAll_cons r1
  obtain ⟨v3, vs3, d3, ds3, p3, q3, rfl, rfl, rfl, h3, r3⟩ := trodAll_cons r2
  obtain ⟨rfl, rfl, rfl⟩ := trodAll_nil r3
  obtain rfl : args = #[v0, v1, v2, v3] := by cases args; simp_all
  obtain ⟨rfl, rfl⟩ := trodVars_none hV
  obtain ⟨x0, rfl, rfl, rfl, y0⟩ := open_int Tryd.underlying3 (hval 0 3 v0 rfl rfl) h0
  obtain ⟨x1, rfl, rfl, rfl, y1⟩ := open_int Tryd.underlying3 (hval 1 3 v1 rfl rfl) h1
  obtain ⟨x2, rfl, rfl, rfl, y2⟩ := open_int Tryd.underlying3 (hval 2 3 v2 rfl rfl) h2
  obtain ⟨A3, n3, c3, rfl⟩ := okWide_slice Tryd.underlying43 (hval 3 43 v3 rfl rfl)
  have h3k := h3
  obtain ⟨fuel3, hf3⟩ := h3
  obtain ⟨B3, m3, b3, l3, hcs3, p3f⟩ := Go.Proofs.YtjbkkmgkckopdaaDoor.Dv.ints_row hf3
  simp only [List.append_nil] at hW'
  have hlt3 : ∀ x ∈ p3, x.block < W.heap.size := fun x hx => hW'.lt x (by simp [hx])
  have hargs3 : ∀ (W' : World), Below W.heap.size W W' → DataW.Trod enc Tryd.prog W' 0 (fun b => decide (b < W.heap.size)) true 43 (.slice A3 n3 c3) d3 p3 :=
    fun W' hn => Below.trod (by kernel_rfl) (by kernel_rfl) (of_decide_eq_true (by kernel_rfl)) h3k hn hlt3
  have e3 : Value.slice A3 n3 c3 = Value.slice B3 m3 b3 := by simpa [Value.cells] using hcs3
  injection e3 with e3a e3b e3c
  subst e3a; subst e3b; subst e3c
  clear hA0 hval0 hsz0
  refine (Go.Proofs.YtjbkkmgkckopdaaDoor.Pg.commits_row x0 x1 y2 p3f hR).mono fun e W' ⟨he, bel⟩ => ?_
  subst he
  exact ⟨_, rfl, _, _, _, [], _, [], hW', trodAll_mk1 (shut_bool Tryd.underlying4 _), (trodAll_cons_mk (shut_int Tryd.underlying3 y0) (trodAll_cons_mk (shut_int Tryd.underlying3 y1) (trodAll_cons_mk (shut_int Tryd.underlying3 y2) (trodAll_cons_mk (hargs3 _ bel) trodAll_mk0)))), rfl, bel.frame _, fun h => by cases h⟩
theorem over : Rows.pagerCommitsRow.holds Tryd.pinned (OpenSpec.ofChange Rows.pagerCommitsSpec) :=
  OpenClaim.holds_of_wide 6 Tryd.f6 rfl rfl rfl rfl rfl rfl rfl ⟨rfl, rfl, rfl, rfl, rfl⟩ rfl rfl rfl rfl rfl (by kernel_rfl) Tryd.func6 (by kernel_rfl)
    (of_decide_eq_true (by kernel_rfl)) (by unfold Func.isWrapper; first | (rw [if_pos (by decide +kernel)]; kernel_rfl) | (rw [if_neg (by decide +kernel)]; exact ⟨rfl, rfl⟩))
    (fun os started H enc _ => lifted os started H enc)
theorem proved : Rows.PagerCommitsSaid := over
theorem card_holds : Claim7.holds Tryd.pinned (.plain (OpenSpec.ofChange Rows.pagerCommitsSpec)) Rows.pagerCommitsCard :=
  Claim7.holds_tied_plain_at .later [] [.data] true (true, "63f06224e25dfbb7d4c69c87d984f3b3b53cff8ea893b33ff393ca6f42971428") false
    proved (fun _ h => by cases h) (by kernel_rfl) (fun _ h => by cases h) pagerCommits_row_tie rfl ⟨rfl, rfl⟩ (by kernel_rfl) rfl
    (fun f fn hf hfn => by
      obtain rfl : f = 6 := Option.some.inj ((show Tryd.prog.funcNamed Rows.pagerCommitsRow.func = some 6 by kernel_rfl).symm.trans hf) |>.symm
      obtain rfl : fn = Tryd.f6 := (Option.some.inj (Tryd.func6.symm.trans hfn)).symm
      exact ⟨by kernel_rfl, fun j t ht => by
        rw [Tryd.params6] at ht
        have hm : t ∈ [3, 3, 3, 43] := by simpa using Array.mem_of_getElem? ht
        have hall : ([3, 3, 3, 43].all fun u => !Tryd.prog.wantsStandIn u) = true := by kernel_rfl
        exact (show Tryd.prog.wantsStandIn t = false by simpa using List.all_eq_true.1 hall t hm)⟩)
    (by kernel_rfl)
#print axioms card_holds
end Go.Proofs.YtjbkkmgkckopdaaDoor.pagerCommits
namespace Go.Proofs.YtjbkkmgkckopdaaDoor
/-- The row, under a short name, for the claim. -/
theorem pagerCommits_holds : Rows.PagerCommitsCardSaid := pagerCommits.card_holds
end Go.Proofs.YtjbkkmgkckopdaaDoor
