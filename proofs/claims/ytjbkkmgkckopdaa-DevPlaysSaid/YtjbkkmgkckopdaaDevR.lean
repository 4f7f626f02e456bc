/- DevLasts: the walk. -/
import Derived.Test.YtjbkkmgkckopdaaDevQ
import Derived.Deep.QuietTactic
import Derived.BigQuiet
namespace Go.Proofs.Ytjbkkmgkckopdaa.Dv
open Go.RowKit Go.Proofs.YtjbkkmgkckopdaaW.PrintWords Go.Proofs.YtjbkkmgkckopdaaW.PrintLast Go.Proofs.YtjbkkmgkckopdaaW.PrintMore Go.Proofs.Ytjbkkmgkckopdaa.Mem
set_option linter.unusedVariables false
set_option linter.unusedSimpArgs false
theorem wpList_append_may {w : World} {ops : Array Oper} {rest : List Oper} {o : Oper} {a : Act} {Q : Exit → Act → World → Prop} (hgd : o.guard = none) (s x : Operand)
    (ho : o.op = .call { callee := .builtin .append, args := #[s, x], argTypes := #[64, 64] }) {b off cap : Nat} {xs : List S} (h : MayAt w b off cap xs) (hs : a.eval s = .slice (some ⟨b, off, none⟩) xs.length cap)
    (c : Nat) (st : S) (hx : a.eval x = .slice (some ⟨c, 0, none⟩) 1 1) (hc : w.cell? ⟨c, 0, none⟩ = some (.string st)) (hlen : xs.length < 1000000)
    (hK : ∀ b' off' cap' w', MayAt w' b' off' cap' (xs ++ [st]) → w.grownBy w' (some b) → (b' = b ∨ b' = w.heap.size) → wpList Try.prog ops Q rest (a.put o.dst (.slice (some ⟨b', off', none⟩) (xs.length + 1) cap')) w') : wpList Try.prog ops Q (o :: rest) a w := by
  refine wpList_plain hgd fun K hK' => ?_
  obtain ⟨b', off', cap', w', hr, h2, h3, h4⟩ := run_append_may h c st hc hlen o.type
  unfold Oper.wp execOp
  simp only [ho, resolve, invoke, builtin, Sem.run_bind, Sem.run_pure, Result.andThen_ok, List.map_toArray, List.map_cons, List.map_nil, hs, hx, hr]
  exact hK' _ _ (hK b' off' cap' w' h2 h3 h4)
theorem tl_ne {s t : S} (h : ¬ s = t) : (ByteArray.toList s == ByteArray.toList t) = false := by
  rw [ByteArray.toList_eq, ByteArray.toList_eq]
  exact beq_eq_false_iff_ne.mpr (fun e => h (Go.WideShapes.bytes_inj e))
theorem cut_off (d : D) : d.cut.1.off = true := by
  unfold D.cut
  split
  · assumption
  · rfl
/-- The act's cells, as the walk wants them. -/
def Cells6 (W : World) (x : Addr) (kind i n c : Int) (t : S) (p : Option Addr) (pl pc : Nat) : Prop :=
  W.cell? x = some (.int .i64 kind) ∧ W.cell? ⟨x.block, x.off + 1, none⟩ = some (.int .i64 i) ∧ W.cell? ⟨x.block, x.off + 2, none⟩ = some (.int .i64 n) ∧ W.cell? ⟨x.block, x.off + 3, none⟩ = some (.int .u8 c) ∧ W.cell? ⟨x.block, x.off + 4, none⟩ = some (.string t) ∧ W.cell? ⟨x.block, x.off + 5, none⟩ = some (.slice p pl pc)
theorem cells6 {w W : World} {ad : Addr} {m : Nat} {a : A} {p : Option Addr} {pc : Nat} (h : ActAt w (ad.add m) a p pc) (hb : Below w.heap.size w W) : Cells6 W (ad.add m) a.kind a.i a.n a.c a.text p a.picks.length pc := by
  have hc : ∀ j (h : j < 6), W.cell? ((ad.add m).add j) = some ((a.cells p pc)[j]'(by simpa [A.cells] using h)) := fun j hj => by
    have h3 := h.2 j (by simpa [A.cells] using hj)
    exact (hb.cell (World.block_lt_of_cell? w _ h3)).trans h3
  refine ⟨?_, ?_, ?_, ?_, ?_, ?_⟩
  · have := hc 0 (by omega)
    rw [Go.Deep.add_add, Nat.add_zero] at this
    exact this
  · have := hc 1 (by omega)
    rwa [add_field _ _ 1 (by omega)] at this
  · have := hc 2 (by omega)
    rwa [add_field _ _ 2 (by omega)] at this
  · have := hc 3 (by omega)
    rwa [add_field _ _ 3 (by omega)] at this
  · have := hc 4 (by omega)
    rwa [add_field _ _ 4 (by omega)] at this
  · have := hc 5 (by omega)
    rwa [add_field _ _ 5 (by omega)] at this
set_option maxHeartbeats 8000000 in
set_option maxRecDepth 1000000 in
theorem devLasts_calls (q : Option Addr) (cap : Nat) (l : List Act3) (i : Int) (p : Option Addr) (picks : List Int) (pc : Nat) (w : World) (hA : ActsAt w q l) (hl : l.length ≤ 9223372036854775807) (hP : IntsAt w p picks) (hpl : picks.length ≤ 9223372036854775807) :
    Calls Try.prog 9 #[.slice q l.length cap, .int .i64 i, .slice p picks.length pc] w (Tell (.bool true) w) := by
  have HA := Aside0.mk awake_calls
  have HN := Aside0.mk (fun W hb => show Calls Try.prog 47 #[.int .i64 4] W _ from new_dev 4 (by omega) (by omega) (w0 := w) (w := W) hb)
  have HS := Aside0.mk (fun W => sector_calls 0 W)
  rw [sec_zero] at HS
  have HL := Aside0.mk hA
  have HPk := Aside0.mk hP
  clear hA hP
  generalize hz : zero128 = z at HS
  have HZ := Aside0.mk hz
  clear hz
  go_enter Try.func9, Try.ntmps9
  go_wp2_with fail
  refine (HA.out _).mono ?_
  rintro e w1 ⟨rfl, hb⟩
  go_wp2_with fail
  refine (HN.out _ hb).mono ?_
  rintro e w2 ⟨g, rfl, hd⟩
  have HD := Aside0.mk hd
  clear hd hb
  go_wp2_with fail
  refine (HS.out _).mono ?_
  rintro e w3 ⟨rfl, hb⟩
  have HB := Aside0.mk ((HD.out.later hb).beside (.cells #[.string z] 9))
  have HM := Aside0.mk (may_one w3 z)
  have HC := Aside0.mk (Can.start i)
  rw [HZ.out] at HC
  have HBd := Aside0.mk (Bd.fresh 4)
  clear hb HD HA HN HS HZ
  go_wp2_with fail
  go_loopg [9, 10] (l.length) (fun kx v9 v10 wr => ∃ (k : Nat) (d : D) (may : List S) (b off mc : Nat), v9 = .slice (some ⟨b, off, none⟩) may.length mc ∧ v10 = .int .i64 k ∧ k ≤ l.length ∧ k ≤ 60 ∧ l.length - k ≤ kx ∧ may.length ≤ k + 1 ∧ Aside0 (Beside w wr g d b) ∧ Aside0 (MayAt wr b off mc may) ∧ Aside0 (Can d i may) ∧ Aside0 (Bd d k))
  case atStart => exact ⟨0, _, [z], _, 0, 1, rfl, rfl, Nat.zero_le _, by omega, by omega, by simp, HB, HM, HC, HBd⟩
  case round =>
    clear HB HM HC HBd
    obtain ⟨k, d, may, b, off, mc, rfl, rfl, hkl, hk60, hkk, hml, HB, HM, HC, HBd⟩ := hrel
    have HO := Aside0.mk HB.out.dev.on
    by_cases hgo : k < l.length ∧ k < 60
    · obtain ⟨h1, h2⟩ := hgo
      have a1 : (k : Int) < (l.length : Int) := by omega
      have a2 : (k : Int) < 60 := by omega
      have a3 : (0 : Int) ≤ (k : Int) := by omega
      have b1 : decide ((k : Int) < (l.length : Int)) = true := decide_eq_true a1
      have b2 : decide ((k : Int) < 60) = true := decide_eq_true a2
      have w9 : IntKind.i64.wrap ((k : Int) + 1) = (k : Int) + 1 := by rw [IntKind.wrap_i64]; omega
      obtain ⟨ad, rfl, hact⟩ := HL.out k h1
      have HAct := Aside0.mk (HB.out.act l[k].a l[k].p l[k].pc hact.1 HBd.out (by omega))
      have H6 := Aside0.mk (fun W hb => cells6 (W := W) hact hb)
      generalize l[k].a = a at hact H6 HAct
      generalize l[k].p = ap at hact H6 HAct
      generalize l[k].pc = apc at hact H6 HAct
      have HT := Aside0.mk (text_calls a ap apc)
      obtain ⟨c0, c1, c2, c3, c4, c5⟩ := H6.out wr HB.out.below
      have HBd5 := Aside0.mk (HBd.out.act a hact.1.2.1)
      have hoff : Aside0 (∀ h : d.off = true, (!d.off) = false) := Aside0.mk (fun h => by rw [h]; rfl)
      have hcan : (a.kind = 1 ∧ a.i = i ∧ (d.act a).2 = 0 ∧ Can (d.act a).1 i (may ++ [a.txt])) ∨ (a.kind = 2 ∧ (d.act a).2 = 0 ∧ ∀ n (hn : may.length = n + 1), Can (d.act a).1 i [may[n]]) ∨ (a.kind = 5 ∧ (d.act a).2 = 0 ∧ d.off = true ∧ Can (d.act a).1 i [(d.act a).1.last i]) ∨
          (((a.kind = 1 ∧ ¬ a.i = i) ∨ (a.kind = 1 ∧ a.i = i ∧ ¬ (d.act a).2 = 0) ∨ (a.kind = 2 ∧ ¬ (d.act a).2 = 0) ∨ (a.kind = 5 ∧ ¬ (d.act a).2 = 0) ∨ (¬ a.kind = 1 ∧ ¬ a.kind = 2 ∧ ¬ a.kind = 5)) ∧ Can (d.act a).1 i may) := by
        have hC := HC.out
        unfold D.act
        by_cases k1 : a.kind = 1
        · rw [if_pos k1]
          by_cases hi : a.i = i
          · by_cases he : (d.write a.i a.txt).2 = 0
            · refine .inl ⟨k1, hi, he, ?_⟩
              rw [hi] at he ⊢
              exact hC.write _ he
            · exact .inr (.inr (.inr ⟨.inr (.inl ⟨k1, hi, he⟩), hC.write_no _ (.inr he)⟩))
          · exact .inr (.inr (.inr ⟨.inl ⟨k1, hi⟩, hC.write_no _ (.inl hi)⟩))
        rw [if_neg k1]
        by_cases k2 : a.kind = 2
        · rw [if_pos k2]
          by_cases he : d.sync.2 = 0
          · exact .inr (.inl ⟨k2, he, fun n hn => hC.sync he hn⟩)
          · exact .inr (.inr (.inr ⟨.inr (.inr (.inl ⟨k2, he⟩)), hC.sync_no he⟩))
        rw [if_neg k2]
        by_cases k5 : a.kind = 5
        · rw [if_neg (show ¬ a.kind = 3 by omega), if_neg (show ¬ a.kind = 4 by omega), if_pos k5]
          by_cases he : (d.start a.picks).2 = 0
          · obtain ⟨h1, h2⟩ := hC.begin _ he
            exact .inr (.inr (.inl ⟨k5, he, h1, h2⟩))
          · exact .inr (.inr (.inr ⟨.inr (.inr (.inr (.inl ⟨k5, he⟩))), hC.begin_no _ he⟩))
        · refine .inr (.inr (.inr ⟨.inr (.inr (.inr (.inr ⟨k1, k2, k5⟩))), ?_⟩))
          split
          · exact hC.fused _
          split
          · exact hC.cut
          · exact hC
      unfold A.cells at HAct HT
      have hlenm : Aside0 (∃ n, may.length = n + 1) := Aside0.mk ⟨may.length - 1, by have := List.length_pos_iff.2 HC.out.ne; omega⟩
      clear hact h1 HBd HC
      go_wp2_with fail
      refine HO.out.mono ?_
      rintro e w4 ⟨rfl, rfl⟩
      have HX := Aside0.mk hcan
      clear hcan
      go_wp2_with fail
      refine HAct.out.mono ?_
      rintro e w5 ⟨rfl, hB5, hk5⟩
      have hM5 := HM.out.keep hk5
      have HL5 := Aside0.mk (hB5.dev.lasts i)
      have hcan := HX.out
      generalize (d.act a).1 = d' at hB5 hcan HBd5 HL5
      generalize (d.act a).2 = e' at hcan
      have HB5 := Aside0.mk hB5
      have HM5 := Aside0.mk hM5
      obtain ⟨c0, c1, c2, c3, c4, c5⟩ := H6.out w5 hB5.below
      have HY := Aside0.mk hcan
      clear hB5 hM5 hk5 HAct HB HM HX hcan
      rcases HY.out with ⟨k1, hi, he, hC5⟩ | ⟨k1, he, hC5⟩ | ⟨k1, he, ho, hC5⟩ | ⟨hk, hC5⟩
      · have HC5 := Aside0.mk hC5
        clear hC5 HY
        rw [k1] at c0
        rw [hi] at c1
        rw [k1, hi] at HT
        have K1 := Aside0.mk k1
        subst he
        clear k1 hi
        generalize a.txt = tx at HT HC5
        go_wp2_with fail
        refine (HT.out _).mono ?_
        rintro e w6 ⟨rfl, hb⟩
        have HB7 := Aside0.mk ((HB5.out.quiet hb).quiet (below_alloc (Below.refl _ w6) (.cells #[.string tx] 9)))
        have HM7 := Aside0.mk (HM5.out.keep (w1 := w6.alloc (.cells #[.string tx] 9)) ((Below.heap_alloc _ _ _ (Nat.lt_of_lt_of_le HB5.out.lt hb.size)).trans (hb.block b HB5.out.lt)))
        have hx7 : (w6.alloc (.cells #[.string tx] 9)).cell? ⟨w6.heap.size, 0, none⟩ = some (.string tx) := (blk_cell (blk_new _ _) 0).trans rfl
        have HX7 := Aside0.mk hx7
        clear hb hx7 HB5 HM5 HT
        go_wp2_with ((with_reducible refine gate_builtin (b := .append) (xs := #[.tmp 61, .tmp 67]) rfl ?_); refine wpList_append_may rfl (.tmp 61) (.tmp 67) rfl HM7.out rfl w6.heap.size tx rfl HX7.out (by omega) ?_; intro b' off' mc' w8 hm8 hg8 hb8; have HB8 := Aside0.mk (HB7.out.push hg8 hb8 hm8.lt); have HM8 := Aside0.mk hm8; obtain ⟨d0, d1, d2, d3, d4, d5⟩ := H6.out w8 HB8.out.below; rw [K1.out] at d0; clear hm8 hg8 hb8 HB7 HM7 HX7)
        go_roundg (l.length - (k + 1))
        case measure => omega
        case rel => exact ⟨k + 1, d', may ++ [tx], b', off', mc', by simp, rfl, by omega, by omega, Nat.le_refl _, by simp; omega, HB8, HM8, HC5, HBd5⟩
      · obtain ⟨n, hn⟩ := hlenm.out
        have HC5 := Aside0.mk (hC5 n hn)
        have HM8 := Aside0.mk (HM5.out.last hn)
        have hmc : n + 1 ≤ mc := by obtain ⟨_, _, _, _, h4, _⟩ := HM5.out; omega
        clear hC5 HY
        rw [k1] at c0
        subst he
        clear k1
        have w8 : wrap64 (n : Int) = (n : Int) := IntWalk.wrap64_in _ (by omega)
        have x2 : (n : Int) ≤ (n : Int) + 1 := by omega
        have x3 : n + 1 - n = 1 := by omega
        have x1 : (0 : Int) ≤ (n : Int) := by omega
        rw [hn]
        have HNn := Aside0.mk hn
        generalize may[n] = lst at HC5 HM8
        clear hn
        go_wp2_with fail
        go_roundg (l.length - (k + 1))
        case measure => omega
        case rel => exact ⟨k + 1, d', [lst], b, off + n, mc - n, by simp, rfl, by omega, by omega, Nat.le_refl _, by simp, HB5, HM8, HC5, HBd5⟩
      · have HC5 := Aside0.mk hC5
        clear hC5 HY
        rw [k1] at c0
        subst he
        clear k1
        have hb2 : (!d.off) = false := by rw [ho]; rfl
        have HBn := Aside0.mk (HB5.out.dev.beside (.cells #[.string (d'.last i)] 9))
        have HMn := Aside0.mk (may_one w5 (d'.last i))
        generalize d'.last i = s0 at HL5 HC5 HBn HMn
        go_wp2_with fail
        refine HL5.out.mono ?_
        rintro e w6 ⟨rfl, rfl⟩
        go_wp2_with fail
        go_roundg (l.length - (k + 1))
        case measure => omega
        case rel => exact ⟨k + 1, d', [s0], _, 0, 1, rfl, rfl, by omega, by omega, Nat.le_refl _, by simp, HBn, HMn, HC5, HBd5⟩
      · have HC5 := Aside0.mk hC5
        clear hC5 HY
        rcases hk with ⟨k1, hi⟩ | ⟨k1, hi, he⟩ | ⟨k1, he⟩ | ⟨k1, he⟩ | ⟨k1, k2, k5⟩
        · rw [k1] at c0
          have f1 : (a.i == i) = false := beq_eq_false_iff_ne.mpr hi
          clear k1
          go_wp2_with fail
          go_roundg (l.length - (k + 1))
          case measure => omega
          case rel => exact ⟨k + 1, d', may, b, off, mc, rfl, rfl, by omega, by omega, Nat.le_refl _, by omega, HB5, HM5, HC5, HBd5⟩
        · rw [k1] at c0
          rw [hi] at c1
          have f1 : (e' == 0) = false := beq_eq_false_iff_ne.mpr he
          clear k1 hi
          go_wp2_with fail
          go_roundg (l.length - (k + 1))
          case measure => omega
          case rel => exact ⟨k + 1, d', may, b, off, mc, rfl, rfl, by omega, by omega, Nat.le_refl _, by omega, HB5, HM5, HC5, HBd5⟩
        · rw [k1] at c0
          have f1 : (e' == 0) = false := beq_eq_false_iff_ne.mpr he
          clear k1
          go_wp2_with fail
          go_roundg (l.length - (k + 1))
          case measure => omega
          case rel => exact ⟨k + 1, d', may, b, off, mc, rfl, rfl, by omega, by omega, Nat.le_refl _, by omega, HB5, HM5, HC5, HBd5⟩
        · rw [k1] at c0
          have f1 : (e' == 0) = false := beq_eq_false_iff_ne.mpr he
          clear k1
          go_wp2_with fail
          go_roundg (l.length - (k + 1))
          case measure => omega
          case rel => exact ⟨k + 1, d', may, b, off, mc, rfl, rfl, by omega, by omega, Nat.le_refl _, by omega, HB5, HM5, HC5, HBd5⟩
        · have f1 : (a.kind == 1) = false := beq_eq_false_iff_ne.mpr k1
          have f2 : (a.kind == 2) = false := beq_eq_false_iff_ne.mpr k2
          have f3 : (a.kind == 5) = false := beq_eq_false_iff_ne.mpr k5
          go_wp2_with fail
          go_roundg (l.length - (k + 1))
          case measure => omega
          case rel => exact ⟨k + 1, d', may, b, off, mc, rfl, rfl, by omega, by omega, Nat.le_refl _, by omega, HB5, HM5, HC5, HBd5⟩
    · have b3 : ((k : Int) < (l.length : Int) ∧ decide ((k : Int) < (l.length : Int)) = true ∧ ¬ (k : Int) < 60 ∧ decide ((k : Int) < 60) = false) ∨ (¬ (k : Int) < (l.length : Int) ∧ decide ((k : Int) < (l.length : Int)) = false) := by
        by_cases h1 : k < l.length
        · exact .inl ⟨by omega, decide_eq_true (by omega), by omega, decide_eq_false (by omega)⟩
        · exact .inr ⟨by omega, decide_eq_false (by omega)⟩
      have HLs := Aside0.mk (HB.out.dev.lasts i)
      have HBl := Aside0.mk HB.out.below
      by_cases hi : i < 0 ∨ 3 < i
      · rw [last_no HC.out.len hi] at HLs
        rcases b3 with ⟨a1, b1, a2, b2⟩ | ⟨a1, b1⟩
        all_goals rcases hi with hi | hi
        all_goals
          go_wp2_with fail
          refine HLs.out.mono ?_
          rintro e w5 ⟨rfl, rfl⟩
          go_wp2_with fail
          go_ret
          exact ⟨rfl, HBl.out⟩
      · obtain ⟨j, rfl⟩ := Int.eq_ofNat_of_zero_le (show 0 ≤ i by omega)
        have i1 : ¬ ((j : Int) < 0) := by omega
        have i2 : ¬ (3 < (j : Int)) := by omega
        rcases b3 with ⟨a1, b1, a2, b2⟩ | ⟨a1, b1⟩
        all_goals
          have HCu := Aside0.mk HB.out.cut
          have HC1 := Aside0.mk HC.out.cut
          have HO1 := Aside0.mk (cut_off d)
          clear HBl HLs HO HBd HC
          go_wp2_with fail
          refine HCu.out.mono ?_
          rintro e w5 ⟨rfl, hB5, hk5⟩
          have HM5 := Aside0.mk (HM.out.keep hk5)
          generalize d.cut.1 = d1 at hB5 HC1 HO1
          obtain ⟨q1, q2, t, q3, q4⟩ := HC1.out.end_ (by omega) HO1.out picks
          have HSt := Aside0.mk (hB5.start p picks pc HPk.out hpl)
          rw [q1] at HSt
          generalize (d1.start picks).1 = d2 at HSt q2 q4
          have Q2 := Aside0.mk q2
          have Q4 := Aside0.mk (⟨t, q3, q4⟩ : ∃ t, t < may.length ∧ may[t]? = some (d2.last j))
          clear hB5 hk5 HM HB HCu HC1 HO1 q1 q2 q3 q4
          go_wp2_with fail
          refine HSt.out.mono ?_
          rintro e w6 ⟨rfl, hB6, hk6⟩
          have HM6 := Aside0.mk (HM5.out.keep hk6)
          have HWt := Aside0.mk (hB6.dev.waits j)
          rw [Q2.out] at HWt
          have HB6 := Aside0.mk hB6
          clear hB6 hk6 HM5 HSt Q2
          go_wp2_with fail
          refine HWt.out.mono ?_
          rintro e w7 ⟨rfl, rfl⟩
          have hml2 : may.length ≤ 100 := by omega
          clear HWt hkk
          go_wp2_with fail
          go_loopg [13] (may.length) (fun kx v13 wx => ∃ m : Nat, v13 = .int .i64 m ∧ m ≤ may.length ∧ may.length - m ≤ kx ∧ (Aside0 (∀ t, t < m → may[t]? ≠ some (d2.last j))) ∧ Aside0 (Beside w wx g d2 b) ∧ Aside0 (MayAt wx b off mc may))
          case atStart => exact ⟨0, rfl, Nat.zero_le _, by omega, Aside0.mk (fun t h => absurd h (Nat.not_lt_zero t)), HB6, HM6⟩
          case round =>
            clear HB6 HM6
            obtain ⟨m, rfl, hm, hmk, HNo, HB6, HM6⟩ := hrel
            by_cases hgo2 : m < may.length
            · have d1 : (m : Int) < (may.length : Int) := by omega
              have d2' : decide ((m : Int) < (may.length : Int)) = true := decide_eq_true d1
              have d3 : (0 : Int) ≤ (m : Int) := by omega
              have d4 : IntKind.i64.wrap ((m : Int) + 1) = (m : Int) + 1 := by rw [IntKind.wrap_i64]; omega
              have cm := HM6.out.cell m hgo2
              have hmm : may[m]? = some may[m] := List.getElem?_eq_getElem hgo2
              have HQ : ∀ n, Calls Try.prog 52 #[.pointer (some ⟨g, 0, none⟩), .int .i64 (j : Int)] (wr.drewN n) (fun e w' => e = .returned (.string (d2.last j)) ∧ wr.drewN n = w') := fun n => (HB6.out.quiet (w' := wr.drewN n) ⟨rfl, rfl, rfl, Nat.le_refl _, fun _ _ => rfl⟩).dev.lasts j
              have HQQ := Aside0.mk HQ
              have HBl := Aside0.mk HB6.out.below
              generalize may[m] = s at cm hmm
              clear HQ
              by_cases he : d2.last j = s
              · have f1 : (ByteArray.toList (d2.last j) == ByteArray.toList s) = true := by rw [he]; exact beq_self_eq_true _
                clear he hmm
                go_wp2_with fail
                go_quiet ((go_at_call 52; exact Calls.quiet_of_same ((HQQ.out _).mono fun e w' h => ⟨h.1, h.2.symm⟩)))
                go_wp2_with fail
                go_ret
                exact ⟨rfl, HBl.out.trans ⟨rfl, rfl, rfl, Nat.le_refl _, fun _ _ => rfl⟩⟩
              · have f1 := tl_ne he
                have HN2 := Aside0.mk (show ∀ t, t < m + 1 → may[t]? ≠ some (d2.last j) from fun t ht e => by
                  by_cases h : t = m
                  · rw [h, hmm] at e
                    exact he (Option.some.inj e).symm
                  · exact HNo.out t (by omega) e)
                clear he hmm
                go_wp2_with fail
                go_quiet ((go_at_call 52; exact Calls.quiet_of_same ((HQQ.out _).mono fun e w' h => ⟨h.1, h.2.symm⟩)))
                go_wp2_with fail
                go_roundg (may.length - (m + 1))
                case measure => omega
                case rel => exact ⟨m + 1, rfl, by omega, Nat.le_refl _, HN2, Aside0.mk (HB6.out.quiet ⟨rfl, rfl, rfl, Nat.le_refl _, fun _ _ => rfl⟩), Aside0.mk (HM6.out.keep rfl)⟩
            · obtain ⟨t, h1, h2⟩ := Q4.out
              exact absurd h2 (HNo.out t (by omega))
end Go.Proofs.Ytjbkkmgkckopdaa.Dv
