/- The sorted keys of a map: the shelf's contracts laid at this dump. -/
import Derived.Shelf.Sort.Plain
import Derived.Shelf.Slices.In.SortNone
import Derived.Shelf.SlIterI.Nil
import Derived.Test.YtjbkkmgkckopdaaDevG
namespace Go.Proofs.Ytjbkkmgkckopdaa.It
open Go.RowKit Go.Shelf Go.Sort Go.Maps Go.Proofs.Ytjbkkmgkckopdaa.Mem
set_option linter.unusedVariables false
set_option linter.unusedSimpArgs false
def lays189_ren : Go.Shelf.Ren := ⟨fun | 189 => 95 | 125 => 129 | 257 => 128 | 128 => 154 | 129 => 155 | 294 => 145 | 295 => 146 | 296 => 147 | 297 => 148 | 298 => 149 | 299 => 150 | 216 => 151 | 300 => 152 | 301 => 153 | 328 => 165 | 329 => 166 | 330 => 167 | 331 => 168 | 332 => 169 | 215 => 170 | 343 => 181 | n => n, fun | 28 => 55 | 3 => 3 | 46 => 164 | 0 => 0 | 51 => 196 | 53 => 120 | 4 => 4 | 183 => 190 | 182 => 189 | 131 => 53 | 5 => 5 | 9 => 9 | 218 => 217 | 222 => 221 | 228 => 232 | 229 => 233 | n => n, fun | n => n⟩
theorem lays189 : Go.Proofs.Lays.n189 Try.prog lays189_ren := {
  mixed := by kernel_rfl
  f125 := Try.func129.trans (congrArg some (by kernel_rfl))
  f128 := Try.func154.trans (congrArg some (by kernel_rfl))
  f129 := Try.func155.trans (congrArg some (by kernel_rfl))
  f189 := Try.func95.trans (congrArg some (by kernel_rfl))
  f215 := Try.func170.trans (congrArg some (by kernel_rfl))
  f216 := Try.func151.trans (congrArg some (by kernel_rfl))
  f257 := Try.func128.trans (congrArg some (by kernel_rfl))
  f294 := Try.func145.trans (congrArg some (by kernel_rfl))
  f295 := Try.func146.trans (congrArg some (by kernel_rfl))
  f296 := Try.func147.trans (congrArg some (by kernel_rfl))
  f297 := Try.func148.trans (congrArg some (by kernel_rfl))
  f298 := Try.func149.trans (congrArg some (by kernel_rfl))
  f299 := Try.func150.trans (congrArg some (by kernel_rfl))
  f300 := Try.func152.trans (congrArg some (by kernel_rfl))
  f301 := Try.func153.trans (congrArg some (by kernel_rfl))
  f328 := Try.func165.trans (congrArg some (by kernel_rfl))
  f329 := Try.func166.trans (congrArg some (by kernel_rfl))
  f330 := Try.func167.trans (congrArg some (by kernel_rfl))
  f331 := Try.func168.trans (congrArg some (by kernel_rfl))
  f332 := Try.func169.trans (congrArg some (by kernel_rfl))
  f343 := Try.func181.trans (congrArg some (by kernel_rfl))
  t0 := Try.underlying0
  a0 := Try.isAgg0
  z0 := Try.sizeOf0
  v0 := Try.zeroValue0
  t3 := Try.underlying3
  a3 := Try.isAgg3
  z3 := Try.sizeOf3
  v3 := Try.zeroValue3
  t4 := Try.underlying4
  a4 := Try.isAgg4
  z4 := Try.sizeOf4
  v4 := Try.zeroValue4
  t5 := Try.underlying5
  a5 := Try.isAgg5
  z5 := Try.sizeOf5
  v5 := Try.zeroValue5
  t9 := Try.underlying9
  a9 := Try.isAgg9
  z9 := Try.sizeOf9
  v9 := Try.zeroValue9
  t28 := Try.underlying55
  a28 := Try.isAgg55
  z28 := Try.sizeOf55
  v28 := Try.zeroValue55
  t46 := Try.underlying164
  a46 := Try.isAgg164
  z46 := Try.sizeOf164
  v46 := Try.zeroValue164
  t51 := Try.underlying196
  a51 := Try.isAgg196
  z51 := Try.sizeOf196
  v51 := Try.zeroValue196
  t53 := Try.underlying120
  a53 := Try.isAgg120
  z53 := Try.sizeOf120
  v53 := Try.zeroValue120
  t131 := Try.underlying53
  a131 := Try.isAgg53
  z131 := Try.sizeOf53
  v131 := Try.zeroValue53
  t182 := Try.underlying189
  a182 := Try.isAgg189
  z182 := Try.sizeOf189
  v182 := Try.zeroValue189
  t183 := Try.underlying190
  a183 := Try.isAgg190
  z183 := Try.sizeOf190
  v183 := Try.zeroValue190
  t218 := Try.underlying217
  a218 := Try.isAgg217
  z218 := Try.sizeOf217
  v218 := Try.zeroValue217
  t222 := Try.underlying221
  a222 := Try.isAgg221
  z222 := Try.sizeOf221
  v222 := Try.zeroValue221
  t228 := Try.underlying232
  a228 := Try.isAgg232
  z228 := Try.sizeOf232
  v228 := Try.zeroValue232
  t229 := Try.underlying233
  a229 := Try.isAgg233
  z229 := Try.sizeOf233
  v229 := Try.zeroValue233 }
open Go.Sort Go.RowKit in
theorem slices_Sort_int (blk off cap : Nat) (zs : List Int) (w : World) (hH : Holds (Value.int .i64) w blk off zs.toArray) (hblk : blk < w.heap.size) (hsz : zs.length < 4611686018427387904) :
    Calls Try.prog 95 #[.slice (some ⟨blk, off, none⟩) zs.length cap] w fun e w' =>
      e = .returned (.tuple #[]) ∧ ∃ n os, w' = grow (putRow (Value.int .i64) (Sort.ahead w n) blk off (zs.mergeSort fun x y => decide (x ≤ y)).toArray) os := Any.slices_Sort_int lays189 blk off cap zs w hH hblk hsz
open Go.RowKit Go.Sort in
/-- .. and plain. (LAID: no walk: one application.) -/
theorem slices_Sort_int_none (p : Option Addr) (cap : Nat) (w : World) :
    Calls Try.prog 95 #[.slice p 0 cap] w fun e w' => e = .returned (.tuple #[]) ∧ w' = w := Any.slices_Sort_int_none lays189 p cap w
def keysD_ren : Go.Shelf.Ren := ⟨fun | 7 => 99 | 10 => 132 | n => n, fun | 23 => 136 | 26 => 3 | 3 => 64 | 28 => 141 | 0 => 0 | 27 => 140 | 33 => 58 | 4 => 4 | n => n, fun | n => n⟩
theorem keysD : Go.Proofs.SlLaysZI.n7 Try.prog keysD_ren := {
  mixed := by kernel_rfl
  f7 := ⟨Try.f99.name, by decide, Try.func99.trans (congrArg some (by kernel_rfl))⟩
  f10 := ⟨Try.f132.name, by decide, Try.func132.trans (congrArg some (by kernel_rfl))⟩
  t0 := Try.underlying0
  a0 := Try.isAgg0
  z0 := Try.sizeOf0
  v0 := Try.zeroValue0
  t4 := Try.underlying4
  a4 := Try.isAgg4
  z4 := Try.sizeOf4
  v4 := Try.zeroValue4
  t23 := Try.underlying136
  a23 := Try.isAgg136
  z23 := Try.sizeOf136
  v23 := Try.zeroValue136
  t26 := Try.underlying3
  a26 := Try.isAgg3
  z26 := Try.sizeOf3
  v26 := Try.zeroValue3
  t27 := Try.underlying140
  a27 := Try.isAgg140
  z27 := Try.sizeOf140
  v27 := Try.zeroValue140
  t28 := Try.underlying141
  a28 := Try.isAgg141
  z28 := Try.sizeOf141
  v28 := Try.zeroValue141
  t33 := Try.underlying58
  a33 := Try.isAgg58
  z33 := Try.sizeOf58
  v33 := Try.zeroValue58 }
def sortedD_ren : Go.Shelf.Ren := ⟨fun | 6 => 98 | 8 => 131 | 9 => 95 | 11 => 158 | 13 => 129 | 12 => 128 | 23 => 154 | 24 => 155 | 14 => 145 | 15 => 146 | 16 => 147 | 17 => 148 | 18 => 149 | 19 => 150 | 20 => 151 | 21 => 152 | 22 => 153 | 25 => 165 | 26 => 166 | 27 => 167 | 28 => 168 | 29 => 169 | 30 => 170 | 31 => 181 | n => n, fun | 26 => 3 | 28 => 141 | 24 => 55 | 0 => 0 | 3 => 3 | 37 => 164 | 48 => 196 | 50 => 120 | 4 => 4 | 40 => 190 | 39 => 189 | 45 => 53 | 5 => 5 | 9 => 9 | 51 => 217 | 55 => 221 | 57 => 232 | 58 => 233 | 33 => 58 | n => n, fun | n => n⟩
theorem sortedD : Go.Proofs.SlLaysZI.n6 Try.prog sortedD_ren := {
  mixed := by kernel_rfl
  f6 := ⟨Try.f98.name, by decide, Try.func98.trans (congrArg some (by kernel_rfl))⟩
  f8 := ⟨Try.f131.name, by decide, Try.func131.trans (congrArg some (by kernel_rfl))⟩
  f11 := ⟨Try.f158.name, by decide, Try.func158.trans (congrArg some (by kernel_rfl))⟩
  t0 := Try.underlying0
  a0 := Try.isAgg0
  z0 := Try.sizeOf0
  v0 := Try.zeroValue0
  t24 := Try.underlying55
  a24 := Try.isAgg55
  z24 := Try.sizeOf55
  v24 := Try.zeroValue55
  t26 := Try.underlying3
  a26 := Try.isAgg3
  z26 := Try.sizeOf3
  v26 := Try.zeroValue3
  t28 := Try.underlying141
  a28 := Try.isAgg141
  z28 := Try.sizeOf141
  v28 := Try.zeroValue141
  i26 := by kernel_rfl }

/-- slices.Sort's two contracts. -/
theorem sortsD (m : Nat) : AnyZI.SortsIn Try.prog sortedD_ren Fence.wide m :=
  ⟨fun blk off cap ss W hH hblk hsz => callsIn_wide.2 (slices_Sort_int blk off cap ss W hH hblk hsz),
   fun p cap W => callsIn_wide.2 (slices_Sort_int_none p cap W)⟩
theorem keys_calls (w : World) (mb : Option Nat) : Calls Try.prog 99 #[.map mb] w fun e w' => e = .returned (.func (.func 132) #[] #[.pointer (some ⟨w.heap.size, 0, none⟩)]) ∧ w' = w.alloc (.cells #[.map mb] 136) :=
  (callsIn_wide (n := 5)).1 (AnyZI.keys_in keysD Fence.wide 5 trivial rfl mb w)
/-- How the map's values read here: as nothing. -/
def blind (v : Value) : Option (DataW Unit × List MemPlace) := some (.nil, [])
theorem insert_perm {H : Type} (x : Lit × DataW H) : ∀ l, (DataW.insert x l).Perm (x :: l)
  | [] => .refl _
  | y :: r => by
    unfold DataW.insert
    split
    · exact .refl _
    · exact ((insert_perm x r).cons y).trans (.swap x y r)
theorem fold_perm {H : Type} : ∀ l : List (Lit × DataW H), (l.foldr DataW.insert []).Perm l
  | [] => .refl _
  | x :: r => (insert_perm x _).trans ((fold_perm r).cons x)
theorem own_of {w : World} {M clock : Nat} {l : List Ent} (hm : IMap w M l clock) (hk : (l.map (·.key)).Nodup) (hb : (l.map (·.born)).Nodup) (ho : ∀ e ∈ l, e.born < clock) (hr : ∀ e ∈ l, -9223372036854775808 ≤ e.key ∧ e.key ≤ 9223372036854775807) (hz : l.length ≤ maxLen) :
    ∃ D : DataW Unit, w.ownsMap Try.prog 3 blind M l.length D ∧ Maps.size D = l.length ∧ (intKeys D).Perm (l.map (·.key)) := by
  have hrg : ∀ e ∈ l, WideElems.rd Try.prog 3 blind e.entry = some ((.int .i64 e.key, .nil) : Lit × DataW Unit) := by
    intro e he
    have hw : (Lit.int .i64 e.key).wf = true := by
      have := hr e he
      unfold Lit.wf
      rw [Bool.and_eq_true, decide_eq_true_eq, decide_eq_true_eq]
      refine ⟨?_, ?_⟩
      · rw [show IntKind.i64.min = -9223372036854775808 from rfl]; exact this.1
      · rw [show IntKind.i64.max = 9223372036854775807 from rfl]; exact this.2
    unfold WideElems.rd blind
    rw [show keyOf Try.prog 3 e.entry.key = some (.int .i64 e.key) from Maps.keyOf_int_mk Try.underlying3 hw]
    rfl
  have hmap : (ents l).toList.map (WideElems.rg Try.prog 3 blind) = l.map (fun e => ((.int .i64 e.key, .nil) : Lit × DataW Unit)) := by
    rw [ents, List.toList_toArray, List.map_map]
    refine List.map_congr_left fun e he => ?_
    rw [Function.comp_apply, WideElems.rg, hrg e he]
    rfl
  refine ⟨_, ⟨ents l, clock, hm, ⟨by simpa [ents] using hz, ⟨?_, ?_, ?_⟩, ?_⟩, by simp [ents], rfl⟩, ?_, ?_⟩
  · intro x hx
    rw [ents, List.toList_toArray] at hx
    obtain ⟨e, he, rfl⟩ := List.mem_map.1 hx
    exact ho e he
  · rw [ents, List.toList_toArray, List.map_map]
    exact hb
  · rw [ents, List.toList_toArray, List.map_map]
    have := hk
    refine List.pairwise_map.2 ((List.pairwise_map.1 hk).imp fun h e => h ?_)
    simpa [Ent.entry] using e
  · intro x hx
    rw [ents, List.toList_toArray] at hx
    obtain ⟨e, he, rfl⟩ := List.mem_map.1 hx
    exact ⟨_, hrg e he⟩
  · rw [hmap, Maps.size_eq, (fold_perm _).length_eq, List.length_map]
  · rw [hmap]
    refine ((fold_perm _).map _).trans ?_
    rw [List.map_map]
    exact .refl _
set_option maxHeartbeats 1000000 in
/-- **slices.Sorted(maps.Keys(m))**, behind maps.Keys' call. -/
theorem sorted_calls {w : World} {M clock : Nat} {l : List Ent} (hm : IMap w M l clock) (hk : (l.map (·.key)).Nodup) (hb : (l.map (·.born)).Nodup) (ho : ∀ e ∈ l, e.born < clock) (hr : ∀ e ∈ l, -9223372036854775808 ≤ e.key ∧ e.key ≤ 9223372036854775807) (hz : l.length ≤ 1000000) :
    Calls Try.prog 98 #[.func (.func 132) #[] #[.pointer (some ⟨w.heap.size, 0, none⟩)]] (w.alloc (.cells #[.map (some M)] 136)) fun e w' => ∃ (v : Value) (ss : List Int), e = .returned v ∧ ss.Perm (l.map (·.key)) ∧
      w'.ownsRow (w.heap.size + 1) 3 1 v ss.length ((ss.mergeSort (fun x y => decide (x ≤ y))).map encZ) ∧ Below (w.heap.size + 1) (w.alloc (.cells #[.map (some M)] 136)) w' := by
  obtain ⟨D0, hown, hs, hp⟩ := own_of hm hk hb ho hr (by rw [maxLen]; omega)
  have hbl := hown.lt
  have hseq : SeqGives Fence.wide 2 Try.prog 132 #[.pointer (some ⟨w.heap.size, 0, none⟩)] encZ (fun ss => ss.Perm (intKeys D0)) (Maps.size D0) (w.alloc (.cells #[.map (some M)] 136)) :=
    AnyZI.keys_gives (ρ := keysD_ren) { keysD with } Fence.wide _ trivial rfl (by omega) w.heap.size M l.length D0 (R := blind) _ (by simp) (by simp) (by
      obtain ⟨es, clock, hb, Ft, hs, hD⟩ := hown
      exact ⟨es, clock, (Below.heap_alloc _ _ M hbl).trans hb, Ft, hs, hD⟩)
  have cS := AnyZI.sorted_in sortedD Fence.wide 5 trivial trivial trivial trivial rfl (by omega) (sortsD _) (enters_of Try.func95 (by kernel_rfl) rfl) 132 #[.pointer (some ⟨w.heap.size, 0, none⟩)] trivial (enters_of Try.func132 (by kernel_rfl) rfl) _ _ (by rw [hs, maxLen]; omega) (by rw [hs]; omega) _ hseq
  refine ((callsIn_wide (n := 5)).1 cS).mono ?_
  rintro e w' ⟨v, ss, rfl, hS, hrow, hnil, hb⟩
  rw [World.size_alloc] at hrow hb
  exact ⟨v, ss, rfl, hS.trans hp, hrow, hb⟩
end Go.Proofs.Ytjbkkmgkckopdaa.It
