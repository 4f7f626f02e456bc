/- The reference device: Sync. -/
import Derived.Test.YtjbkkmgkckopdaaDevRC
namespace Go.Proofs.Ytjbkkmgkckopdaa.Dv
open Go.RowKit Go.Proofs.YtjbkkmgkckopdaaW.PrintWords Go.Proofs.YtjbkkmgkckopdaaW.PrintLast Go.Proofs.YtjbkkmgkckopdaaW.PrintMore Go.Proofs.Ytjbkkmgkckopdaa.Mem
set_option linter.unusedVariables false
set_option linter.unusedSimpArgs false
section
variable {w w' : World} {ok : Nat → Prop} {g : Nat} {r : E} {y : ELay}
/-- A sector is set. -/
theorem EAt.sector (h : EAt w ok g r y) (i : Nat) (hi : i < r.sector.length) (s : S) : EAt (w.setCell ⟨y.L, i, none⟩ (.string s)) ok g { r with sector := r.sector.set i s } y := by
  have far : ∀ k, k ≠ y.L → (w.setCell ⟨y.L, i, none⟩ (.string s)).heap[k]? = w.heap[k]? := fun k hk => Below.heap_setCell w ⟨y.L, i, none⟩ _ k hk
  exact {
    blk := by
      have := (far g (fun e => h.gL e.symm)).trans h.blk
      unfold E.cells at this ⊢
      rw [List.length_set]
      exact this
    sec := h.sec.set i hi s
    row := own_move h.row (fun b hb => far b (h.LR b hb))
    okg := h.okg
    okL := h.okL
    okR := h.okR
    len := by rw [List.length_set]; exact h.len
    few := h.few
    inr := fun p hp => by rw [List.length_set]; exact h.inr p hp }
/-- The row is emptied. -/
theorem EAt.clear (h : EAt w ok g r y) : EAt (w.setCell ⟨g, 1, none⟩ (.slice none 0 0)) ok g { r with row := [] } ⟨y.L, y.cap, y.rest, .slice none 0 0⟩ := by
  have far : ∀ k, k ≠ g → (w.setCell ⟨g, 1, none⟩ (.slice none 0 0)).heap[k]? = w.heap[k]? := fun k hk => Below.heap_setCell w ⟨g, 1, none⟩ _ k hk
  exact {
    blk := blk_put h.blk 1 _ rfl
    sec := (far _ h.gL).trans h.sec
    row := ⟨rfl, .inl ⟨rfl, rfl⟩⟩
    okg := h.okg
    okL := h.okL
    okR := fun b hb => by cases hb
    len := h.len
    few := Nat.zero_le _
    inr := fun p hp => by cases hp }
theorem EAt.form (h : EAt w ok g r y) : ∃ p c, y.v = .slice p r.row.length c ∧ RowAt w p r.row := by
  obtain ⟨p, c, h1, _, h2⟩ := row_form h.row
  exact ⟨p, c, h1, h2⟩
end
/-- The sectors, the first k writes done. -/
def secs (r : E) (k : Nat) : List S := (r.row.take k).foldl (fun l p => l.set p.1 p.2) r.sector
theorem secs_succ (r : E) (k : Nat) (h : k < r.row.length) : secs r (k + 1) = (secs r k).set r.row[k].1 r.row[k].2 := by
  unfold secs
  rw [List.take_succ_eq_append_getElem h, List.foldl_append]
  rfl
theorem secs_len (r : E) (k : Nat) : (secs r k).length = r.sector.length := fold_len _ _
theorem secs_end (r : E) : secs r r.row.length = r.row.foldl (fun l p => l.set p.1 p.2) r.sector := by
  unfold secs
  rw [List.take_length]
section
variable {ok : Nat → Prop} {g : Nat} {r : E} {y : ELay}
set_option maxHeartbeats 2000000 in
set_option maxRecDepth 1000000 in
theorem esync_calls (w : World) (h : EAt w ok g r y) (hf : 0 ≤ r.left) (hf2 : r.left ≤ 9223372036854775807) (hs0 : 0 ≤ r.count) (hs2 : r.count ≤ 1000000000) :
    Calls Try.prog 102 #[.pointer (some ⟨g, 0, none⟩)] w (EDoes ok g r.sync.1 (.int .i64 r.sync.2) w) := by
  have HS := Aside0.mk (estep_calls w h hf hf2 hs0 hs2)
  have okg := h.okg
  cases ho : r.step.2
  · have e : r.sync = (r.step.1, 6) := by unfold E.sync; rw [if_pos ho]
    rw [e]
    rw [ho] at HS
    clear h e
    generalize r.step.1 = r1 at HS
    go_enter Try.func102, Try.ntmps102
    go_wp2_with fail
    refine HS.out.mono ?_
    rintro e w1 hd
    obtain ⟨rfl, hd2⟩ := hd
    have HD2 := Aside0.mk hd2
    clear hd2
    go_wp2_with fail
    go_ret
    exact ⟨rfl, HD2.out⟩
  · have hke : r.step.1.row = r.row ∧ r.step.1.sector = r.sector := by unfold E.step; split; exact ⟨rfl, rfl⟩; split; exact ⟨rfl, rfl⟩; exact ⟨rfl, rfl⟩
    have e : r.sync = ({ r.step.1 with sector := secs r.step.1 r.step.1.row.length, row := [] }, 0) := by unfold E.sync; rw [if_neg (by rw [ho]; decide), secs_end, hke.1, hke.2]
    rw [e]
    rw [ho] at HS
    clear h e hke
    generalize r.step.1 = r1 at HS
    go_enter Try.func102, Try.ntmps102
    go_wp2_with fail
    refine HS.out.mono ?_
    rintro e w1 hd
    obtain ⟨rfl, ⟨y1, hy⟩, ht⟩ := hd
    have HT := Aside0.mk ht
    have HY := Aside0.mk (show EAt w1 (fun k => ok k ∨ w.heap.size ≤ k) g { r1 with sector := secs r1 0 } y1 from hy)
    have hfew := hy.few
    have hlen := hy.len
    have HI := Aside0.mk hy.inr
    obtain ⟨p, c, hv, _⟩ := hy.form
    have HV := Aside0.mk hv
    clear hy ht HS hv
    go_wp2_with fail
    go_loopg [3] (r1.row.length) (fun kx v3 wr => ∃ k : Nat, v3 = .int .i64 k ∧ k ≤ r1.row.length ∧ r1.row.length - k ≤ kx ∧ Aside0 (EAt wr (fun k => ok k ∨ w.heap.size ≤ k) g { r1 with sector := secs r1 k } y1) ∧ Aside0 (Turn ok w wr))
    case atStart => exact ⟨0, rfl, Nat.zero_le _, by omega, HY, HT⟩
    case round =>
      clear HY HT
      obtain ⟨k, rfl, hk, hkk, HY, HT⟩ := hrel
      have z0 : wr.cell? ⟨g, 0, none⟩ = some (.slice (some ⟨y1.L, 0, none⟩) r1.sector.length y1.cap) := by have := HY.out.z0; simp only [secs_len] at this; exact this
      have z1 := HY.out.z1
      rw [HV.out] at z1
      have hrw := (row_form HY.out.row)
      rw [HV.out] at hrw
      obtain ⟨p2, c2, hv2, _, hr2⟩ := hrw
      injection hv2 with hp1 _ hp3
      subst hp1
      have f1 := HY.out.fz 1
      by_cases hgo : k < r1.row.length
      · obtain ⟨R, rfl, c0, c1⟩ := hr2 k hgo
        have a1 : (k : Int) < (r1.row.length : Int) := by omega
        have a2 : decide ((k : Int) < (r1.row.length : Int)) = true := decide_eq_true a1
        have a3 : (0 : Int) ≤ (k : Int) := by omega
        have w9 : IntKind.i64.wrap ((k : Int) + 1) = (k : Int) + 1 := by rw [IntKind.wrap_i64]; omega
        have hin := HI.out _ (List.getElem_mem hgo)
        have hss := secs_succ r1 k hgo
        dsimp only at c0 c1
        generalize hkey : (r1.row[k]).1 = key at c0 hin hss
        generalize hs : (r1.row[k]).2 = s at c1 hss
        clear hkey hs
        have hil : key < (secs r1 k).length := by rw [secs_len]; exact hin
        have b1 : (0 : Int) ≤ (key : Int) := by omega
        have b2 : (key : Int) < (r1.sector.length : Int) := by omega
        have ck := HY.out.sec.cell key hil
        generalize (show E from { r1 with sector := secs r1 k }).sector[key] = s0 at ck
        have fk := HY.out.sec.frozen key
        have HE := Aside0.mk (HY.out.sector key hil s)
        have hokL := HY.out.okL
        have HSS := Aside0.mk hss
        clear hss hr2 hp3 hil hgo
        go_wp2_with fail
        go_region
        go_wp2_with fail
        go_roundg (r1.row.length - (k + 1))
        case measure => omega
        case rel =>
          refine ⟨k + 1, rfl, by omega, Nat.le_refl _, ?_, Aside0.mk (HT.out.set (hokL.imp id id) _).drew⟩
          rw [HSS.out]
          exact Aside0.mk (HE.out.quiet ((Below.refl _ _).drew))
      · have a1 : ¬ (k : Int) < (r1.row.length : Int) := by omega
        have a2 : decide ((k : Int) < (r1.row.length : Int)) = false := decide_eq_false a1
        obtain rfl : k = r1.row.length := by omega
        have HE := Aside0.mk HY.out.clear
        clear hr2 hp3 hgo
        go_wp2_with fail
        go_ret
        exact ⟨rfl, ⟨_, HE.out⟩, HT.out.set (.inl okg) _⟩
end
end Go.Proofs.Ytjbkkmgkckopdaa.Dv
