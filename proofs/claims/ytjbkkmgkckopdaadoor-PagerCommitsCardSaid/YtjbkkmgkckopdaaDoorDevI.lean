/- The device: Start. -/
import Derived.Test.YtjbkkmgkckopdaaDoorDevH
namespace Go.Proofs.YtjbkkmgkckopdaaDoor.Dv
open Go.RowKit Go.Proofs.YtjbkkmgkckopdaaDoorW.PrintWords Go.Proofs.YtjbkkmgkckopdaaDoorW.PrintLast Go.Proofs.YtjbkkmgkckopdaaDoorW.PrintMore Go.Proofs.YtjbkkmgkckopdaaDoor.Mem
set_option linter.unusedVariables false
set_option linter.unusedSimpArgs false
/-- A row of ints that the device's calls leave alone. -/
def Ints (w : World) (ok : Nat → Prop) (p : Option Addr) (xs : List Int) : Prop :=
  ∀ j (h : j < xs.length), ∃ a, p = some a ∧ w.cell? (a.add j) = some (.int .i64 xs[j]) ∧ ¬ ok (a.add j).block
theorem Ints.turn {w w1 : World} {ok : Nat → Prop} {p : Option Addr} {xs : List Int} (h : Ints w ok p xs) (ht : Turn ok w w1) : Ints w1 ok p xs := fun j hj => by
  obtain ⟨a, h1, h2, h3⟩ := h j hj
  exact ⟨a, h1, ht.cell h2 h3, h3⟩
section
variable {w : World} {ok : Nat → Prop} {g : Nat} {d : D} {y : Lay}
theorem keys_perm (h : DAt w ok g d y) : (y.es.map (·.key)).Perm (awaits (look d.waits) d.lasts.length) := by
  refine (List.perm_ext_iff_of_nodup h.keys (awaits_nodup _ _)).2 fun i => ?_
  rw [awaits_mem, List.mem_map]
  constructor
  · rintro ⟨e, he, rfl⟩
    refine ⟨(h.inr e he).1, ?_⟩
    rw [look_mem h.good.1 (i := e.key) (xs := e.xs) (by rw [h.waits]; exact List.mem_map.2 ⟨e, he, rfl⟩)]
    exact (h.inr e he).2
  · rintro ⟨_, h2⟩
    obtain ⟨xs, h3, _⟩ := look_ne h2
    rw [h.waits] at h3
    obtain ⟨e, he, h4⟩ := List.mem_map.1 h3
    exact ⟨e, he, (Prod.mk.inj h4).1⟩
theorem few_es (h : DAt w ok g d y) : y.es.length ≤ 1000000 := by
  have h1 := (keys_perm h).length_eq
  rw [List.length_map] at h1
  have h2 : (awaits (look d.waits) d.lasts.length).length ≤ d.lasts.length := by
    unfold awaits
    exact Nat.le_trans (List.length_filter_le _ _) (by simp)
  have := h.len
  omega
theorem keysZ (h : DAt w ok g d y) : ((y.es.map DEnt.ent).map (·.key)).Nodup := by
  rw [List.map_map]
  have := h.keys
  refine List.pairwise_map.2 ((List.pairwise_map.1 this).imp ?_)
  intro a b hne e
  have e2 : (a.key : Int) = (b.key : Int) := e
  exact hne (by omega)
/-- The keys' row: where it lies. -/
def Row (w : World) (base : Nat) (p : Option Addr) (K : List Nat) : Prop := K = [] ∨ ∃ gb, p = some ⟨gb, 0, none⟩ ∧ base ≤ gb ∧ gb < w.heap.size ∧ ∀ j (h : j < K.length), w.cell? ⟨gb, j, none⟩ = some (.int .i64 (K[j] : Int))
theorem Row.move {w w1 : World} {base : Nat} {p : Option Addr} {K : List Nat} (h : Row w base p K) (hs : w.heap.size ≤ w1.heap.size) (hm : ∀ k, base ≤ k → w1.heap[k]? = w.heap[k]?) : Row w1 base p K := by
  rcases h with h | ⟨gb, h1, h2, h3, h4⟩
  · exact .inl h
  · exact .inr ⟨gb, h1, h2, Nat.lt_of_lt_of_le h3 hs, fun j hj => (World.cell?_of_block (hm gb h2)).trans (h4 j hj)⟩
theorem mod_nat (pk : Int) (n : Nat) : max 0 pk % ((n : Int) + 1) = (((max 0 pk).toNat % (n + 1) : Nat) : Int) := by
  obtain ⟨q, hq⟩ := Int.eq_ofNat_of_zero_le (show 0 ≤ max 0 pk by omega)
  rw [hq]
  simp
theorem row_of {w : World} {base : Nat} {v : Value} {n : Nat} {K : List Nat} (h : w.ownsRow base 3 1 v n ((K.map (fun i : Nat => (i : Int))).map encZ)) : ∃ p cap, v = .slice p K.length cap ∧ K.length ≤ cap ∧ Row w base p K := by
  obtain ⟨h1, h2⟩ := h
  rw [List.length_map, List.length_map, Nat.mul_one] at h1
  subst h1
  rcases h2 with ⟨rfl, h3⟩ | ⟨gb, cap, cur, rfl, hb, hc, h4, h5, h6, h7⟩
  · exact ⟨none, 0, by rw [h3], by omega, .inl (List.eq_nil_of_length_eq_zero h3)⟩
  · refine ⟨_, _, rfl, h4, .inr ⟨gb, rfl, hb, blk_lt hc, fun j hj => ?_⟩⟩
    rw [cell_of_row _ _ _ _ _ _ hc]
    have e : cur.toList[j]? = (((K.map (fun i : Nat => (i : Int))).map encZ))[j]? := by
      rw [← h7, List.getElem?_take_of_lt (by omega)]
    rw [← Array.getElem?_toList, e, List.getElem?_map, List.getElem?_map, List.getElem?_eq_getElem hj]
    rfl
theorem keys_sorted (h : DAt w ok g d y) {ss : List Int} (hp : ss.Perm ((y.es.map DEnt.ent).map (·.key))) :
    (ss.mergeSort (fun x y => decide (x ≤ y))) = (awaits (look d.waits) d.lasts.length).map (fun i : Nat => (i : Int)) := by
  have tr : ∀ a b c : Int, decide (a ≤ b) = true → decide (b ≤ c) = true → decide (a ≤ c) = true := fun a b c h1 h2 => by simp only [decide_eq_true_eq] at *; exact Int.le_trans h1 h2
  have tot : ∀ a b : Int, (decide (a ≤ b) || decide (b ≤ a)) = true := fun a b => by simp only [Bool.or_eq_true, decide_eq_true_eq]; exact Int.le_total a b
  refine List.Perm.eq_of_pairwise (le := fun a b => decide (a ≤ b) = true) (fun a b _ _ h1 h2 => ?_) (List.pairwise_mergeSort tr tot ss) (List.pairwise_map.2 ((awaits_rising _ _).imp fun h => decide_eq_true (by omega))) ?_
  · simp only [decide_eq_true_eq] at h1 h2
    exact Int.le_antisymm h1 h2
  · refine ((List.mergeSort_perm ss _).trans hp).trans ?_
    have := (keys_perm h).map (fun i : Nat => (i : Int))
    rw [List.map_map] at this ⊢
    exact this
set_option maxHeartbeats 4000000 in
set_option maxRecDepth 1000000 in
theorem start_no (w : World) (h : DAt w ok g d y) (pv : Value) (ho : d.off = false) : Calls Tryd.prog 26 #[.pointer (some ⟨g, 0, none⟩), pv] w (Does ok g d (.int .i64 10) w) := by
  have z2 := h.z2
  rw [ho] at z2
  have HD := Aside0.mk h
  clear ho h
  go_enter Tryd.func26, Tryd.ntmps26
  go_wp2_with fail
  go_ret
  exact Does.of rfl rfl rfl HD.out (Turn.refl _ _)
set_option maxHeartbeats 4000000 in
set_option maxRecDepth 1000000 in
theorem start_yes (w : World) (h : DAt w ok g d y) (p : Option Addr) (picks : List Int) (pc : Nat) (hp : Ints w ok p picks) (hpl : picks.length ≤ 9223372036854775807) (ho : d.off = true) : Calls Tryd.prog 26 #[.pointer (some ⟨g, 0, none⟩), .slice p picks.length pc] w (Does ok g { d with lasts := start picks (look d.waits) d.lasts 0 0, waits := [], off := false } (.int .i64 0) w) := by
  have z2 := h.z2
  rw [ho] at z2
  have z1 := h.z1
  have okg := h.okg
  have HK := It.keys_calls w (some y.M)
  have HS := Aside0.mk (It.sorted_calls h.map (keysZ h) (by rw [List.map_map]; exact h.borns) (fun e he => by obtain ⟨e', he', rfl⟩ := List.mem_map.1 he; exact h.old e' he') (fun e he => by
    obtain ⟨e', he', rfl⟩ := List.mem_map.1 he
    have h1 := (h.inr e' he').1
    have h2 := h.len
    simp only [DEnt.ent]
    omega) (by rw [List.length_map]; exact few_es h))
  have HP := Aside0.mk hp
  have HD := Aside0.mk h.narrow
  have HO := Aside0.mk ho
  have HY := Aside0.mk h
  clear ho h hp
  go_enter Tryd.func26, Tryd.ntmps26
  go_wp2_with fail
  refine HK.mono ?_
  rintro e w1 ⟨rfl, rfl⟩
  go_wp2_with fail
  refine HS.out.mono ?_
  rintro e w2 ⟨v, ss, rfl, hperm, hrow, hb⟩
  rw [keys_sorted HY.out hperm] at hrow
  have hlen : (awaits (look d.waits) d.lasts.length).length ≤ 2048 := Nat.le_trans (List.length_filter_le _ _) (by rw [List.length_range]; exact HY.out.len)
  obtain ⟨kp, cap, rfl, hcap, hrow⟩ := row_of hrow
  generalize hK : awaits (look d.waits) d.lasts.length = K at hrow hcap hlen
  have HK := Aside0.mk hK
  have HT := Aside0.mk (show Turn ok w w2 from ((Turn.refl _ _).alloc _).trans (Turn.of_below (hb.mono (by simp)) (fun _ => False)) (fun _ _ h => h.elim))
  have HB2 := Aside0.mk (show Below w.heap.size w w2 from ((Below.refl _ w).alloc (Nat.le_refl _) _).trans (hb.mono (by simp)))
  have HRow := Aside0.mk hrow
  clear HS hperm hb hK HD
  go_wp2_with fail
  have HDr := Aside0.mk (show DAt w2 (fun k => ok k ∧ k < w.heap.size) g { d with lasts := d.lasts } y from HY.out.move (fun k hk hl => HB2.out.block k hl) (fun k hk hl => ⟨hk, hl⟩))
  go_loopg [26] (K.length) (fun kx v26 wr => ∃ (j : Nat) (ls : List S), v26 = .int .i64 j ∧ j ≤ K.length ∧ K.length - j ≤ kx ∧ Aside0 (DAt wr (fun k => ok k ∧ k < w.heap.size) g { d with lasts := ls } y) ∧ Aside0 (Half picks (look d.waits) d.lasts j ls) ∧ Aside0 (Row wr (w.heap.size + 1) kp K) ∧ Aside0 (Turn ok w wr))
  case atStart => exact ⟨0, d.lasts, rfl, Nat.zero_le _, by omega, HDr, Aside0.mk (half_start _ _ _), HRow, HT⟩
  case round =>
    clear HDr HRow HT hrow HB2
    obtain ⟨j, ls, rfl, hj, hjk, HDr, HH, HRow, HT⟩ := hrel
    have z1r := HDr.out.z1
    have z0r : wr.cell? ⟨g, 0, none⟩ = some (.slice (some ⟨y.L, 0, none⟩) ls.length y.cap) := HDr.out.z0
    by_cases hgo : j < K.length
    · rcases HRow.out with hn | ⟨gb, rfl, hg1, hg2, hcs⟩
      · rw [hn] at hgo; exact absurd hgo (Nat.not_lt_zero _)
      have ck := hcs j hgo
      have hKj : K[j]? = some K[j] := List.getElem?_eq_getElem hgo
      generalize K[j] = i at ck hKj
      have hA : (awaits (look d.waits) d.lasts.length)[j]? = some i := by rw [HK.out]; exact hKj
      obtain ⟨hil, hne⟩ := (awaits_mem _ _ _).1 (List.mem_of_getElem? hA)
      have hlr := HDr.out.look_run wr rfl i
      rcases seek_ent i y.es with ⟨n0, en, q1, q2, q3, q4⟩ | ⟨q1, q2, q3⟩
      rotate_left
      · exact absurd (by rw [HY.out.waits]; exact q3) hne
      rw [q1] at hlr
      have hlook : look d.waits i = en.xs := by rw [HY.out.waits]; exact q4
      have hen := List.mem_of_getElem? q2
      have few := HY.out.few en hen
      have HX := Aside0.mk (HDr.out.rows en hen).1
      have HL := Aside0.mk hlook
      have a1 : (j : Int) < (K.length : Int) := by omega
      have a2 : (0 : Int) ≤ (j : Int) := by omega
      have a3 : decide ((j : Int) < (K.length : Int)) = true := decide_eq_true a1
      have w1 : IntKind.i64.wrap ((j : Int) + 1) = (j : Int) + 1 := by rw [IntKind.wrap_i64]; omega
      have w2 : IntKind.i64.wrap ((en.xs.length : Int) + 1) = (en.xs.length : Int) + 1 := by rw [IntKind.wrap_i64]; omega
      have hxl : ¬ (en.xs.length + 1 = 0) := by omega
      clear hcs hrow hcap hne q1 q2 q3 q4 hlook hgo hKj
      by_cases hp0 : picks.length = 0
      · have hk0 : pick picks j (look d.waits i).length = 0 := by unfold pick; rw [if_pos hp0]
        have HH2 := Aside0.mk (half_same HH.out hA hil (by unfold kept; rw [if_pos hk0]))
        have b1 : ¬ (0 : Int) < (picks.length : Int) := by omega
        have b2 : decide ((0 : Int) < (picks.length : Int)) = false := decide_eq_false b1
        clear hk0 HH hp0
        go_wp2_with fail
        go_roundg (K.length - (j + 1))
        case measure => omega
        case rel => exact ⟨j + 1, ls, rfl, by omega, Nat.le_refl _, HDr, HH2, HRow, HT⟩
      · have hr : j % picks.length < picks.length := Nat.mod_lt _ (by omega)
        obtain ⟨a, rfl, cp, hna⟩ := (HP.out.turn HT.out) _ hr
        have b1 : (0 : Int) < (picks.length : Int) := by omega
        have b2 : decide ((0 : Int) < (picks.length : Int)) = true := decide_eq_true b1
        have hpk : pick picks j (look d.waits i).length = (max 0 (picks[j % picks.length])).toNat % (en.xs.length + 1) := by
          unfold pick
          rw [if_neg hp0, HL.out, List.getD_eq_getElem?_getD, List.getElem?_eq_getElem hr]
          rfl
        generalize picks[j % picks.length] = pk at cp hpk
        clear hp0 HP
        by_cases hat : (max 0 pk).toNat % (en.xs.length + 1) = 0
        · have HH2 := Aside0.mk (half_same HH.out hA hil (by unfold kept; rw [if_pos (hpk.trans hat)]))
          have c0 : max 0 pk % ((en.xs.length : Int) + 1) = 0 := by rw [mod_nat, hat]; rfl
          have c1 : ¬ 0 < max 0 pk % ((en.xs.length : Int) + 1) := by omega
          have c2 : decide (0 < max 0 pk % ((en.xs.length : Int) + 1)) = false := decide_eq_false c1
          clear hat hpk HH c0
          go_wp2_with fail
          go_roundg (K.length - (j + 1))
          case measure => omega
          case rel => exact ⟨j + 1, ls, rfl, by omega, Nat.le_refl _, HDr, HH2, HRow, HT⟩
        · obtain ⟨m, hm⟩ : ∃ m, (max 0 pk).toNat % (en.xs.length + 1) = m + 1 := ⟨(max 0 pk).toNat % (en.xs.length + 1) - 1, by omega⟩
          have hmx : m < en.xs.length := by have := Nat.mod_lt (max 0 pk).toNat (show 0 < en.xs.length + 1 by omega); omega
          have hll : ls.length = d.lasts.length := HH.out.1
          have hill : i < ls.length := by omega
          have hkept : en.xs[m] = kept picks (look d.waits i) j d.lasts[i] := by
            unfold kept
            rw [if_neg (by rw [hpk]; exact hat), hpk, hm, HL.out, Nat.add_sub_cancel, List.getD_eq_getElem?_getD, List.getElem?_eq_getElem hmx]
            rfl
          have HH2 := Aside0.mk (half_step HH.out hA hil _ hkept)
          have c0 : max 0 pk % ((en.xs.length : Int) + 1) = (m : Int) + 1 := by rw [mod_nat, hm]; rfl
          have c1 : 0 < max 0 pk % ((en.xs.length : Int) + 1) := by omega
          have c2 : decide (0 < max 0 pk % ((en.xs.length : Int) + 1)) = true := decide_eq_true c1
          have c3 : IntKind.i64.wrap (max 0 pk % ((en.xs.length : Int) + 1) - 1) = (m : Int) := by rw [IntKind.wrap_i64]; omega
          have c4 : (0 : Int) ≤ (m : Int) := by omega
          have c5 : (m : Int) < (en.xs.length : Int) := by omega
          have c6 : (0 : Int) ≤ (i : Int) := by omega
          have c7 : (i : Int) < (ls.length : Int) := by omega
          have cl := HX.out.cell m hmx
          have HL5 := Aside0.mk (HDr.out.last i hill en.xs[m])
          generalize en.xs[m] = s at cl HL5 HH2
          have ci := HDr.out.row.cell i hill
          generalize (show D from { d with lasts := ls }).lasts[i] = s0 at ci
          have fi := HDr.out.row.frozen i
          have hL1 := HDr.out.okL.2
          have hokL := HDr.out.okL.1
          have HR2 := Aside0.mk (HRow.out.move (w1 := (wr.setCell ⟨y.L, i, none⟩ (.string s)).drew) (by simp [World.drew, World.setCell]) (fun k hk => (Below.heap_setCell wr ⟨y.L, i, none⟩ _ _ (fun e1 => by have e2 : k = y.L := e1; omega))))
          clear hat hpk HH hkept hm hmx hll
          go_wp2_with fail
          go_region
          go_wp2_with fail
          go_roundg (K.length - (j + 1))
          case measure => omega
          case rel => exact ⟨j + 1, ls.set i s, rfl, by omega, Nat.le_refl _, Aside0.mk (HL5.out.drewN 1), HH2, HR2, Aside0.mk (HT.out.set (.inl hokL) _).drew⟩
    · have hjK : j = K.length := by omega
      have HS := Aside0.mk (half_end HH.out (by rw [HK.out]; omega))
      have a1 : ¬ (j : Int) < (K.length : Int) := by omega
      have a3 : decide ((j : Int) < (K.length : Int)) = false := decide_eq_false a1
      have hmm := @run_makeMap Tryd.prog
      have HC := Aside0.mk HDr.out.clear
      have HM := HDr.out.move (w' := wr.alloc (.map #[] 0)) (fun k hk hl => Below.heap_alloc _ _ _ hl) (fun _ h _ => h)
      have zm1 := HM.z1
      have fm1 := HM.fz 1
      have zc2 : ((wr.alloc (.map #[] 0)).setCell ⟨g, 1, none⟩ (.map (some wr.heap.size))).cell? ⟨g, 2, none⟩ = some (.bool true) := by
        have := HC.out.z2
        rw [HO.out] at this
        exact this
      have fc2 := HC.out.fz 2
      have hsz := HT.out.size
      clear hgo HM HRow hrow hcap hjK
      go_wp2_with fail
      go_ret
      refine ⟨rfl, ⟨⟨y.L, y.cap, y.rest, wr.heap.size, [], 0⟩, ?_⟩, ?_⟩
      · rw [← HS.out]
        refine (HC.out.put 2 (.bool false) { d with lasts := ls, waits := [], off := false } rfl rfl (by simp)).move (fun _ _ _ => rfl) (fun k hk _ => ?_)
        rcases hk with ⟨h, _⟩ | h
        · exact .inl h
        · exact .inr (by omega)
      · exact ((HT.out.alloc _).set (.inl okg) _).set (.inl okg) _
theorem start_calls (w : World) (h : DAt w ok g d y) (p : Option Addr) (picks : List Int) (pc : Nat) (hp : Ints w ok p picks) (hpl : picks.length ≤ 9223372036854775807) : Calls Tryd.prog 26 #[.pointer (some ⟨g, 0, none⟩), .slice p picks.length pc] w (Does ok g (d.start picks).1 (.int .i64 (d.start picks).2) w) := by
  unfold D.start
  cases ho : d.off
  · rw [if_pos rfl]
    exact start_no w h _ ho
  · rw [if_neg (by decide)]
    exact start_yes w h p picks pc hp hpl ho
theorem sync_calls (w : World) (h : DAt w ok g d y) (hf : 0 ≤ d.fuse) (hf2 : d.fuse ≤ 9223372036854775807) (hs0 : 0 ≤ d.steps) (hs2 : d.steps ≤ 1000000000) : Calls Tryd.prog 31 #[.pointer (some ⟨g, 0, none⟩)] w (Does ok g d.sync.1 (.int .i64 d.sync.2) w) := by
  unfold D.sync
  cases ho : d.step.2
  · rw [if_pos rfl]
    exact sync_no w h hf hf2 hs0 hs2 ho
  · rw [if_neg (by decide)]
    exact sync_yes w h hf hf2 hs0 hs2 ho
end
end Go.Proofs.YtjbkkmgkckopdaaDoor.Dv
