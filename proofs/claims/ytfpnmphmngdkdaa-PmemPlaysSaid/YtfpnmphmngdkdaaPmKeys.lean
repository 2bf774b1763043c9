/-
  The dirty places, sorted: slices.Sorted(maps.Keys(m)) at maps of places: the shelf's contracts laid at this program. No condition.
-/
import Derived.Test.YtfpnmphmngdkdaaMapR
import Derived.Test.YtfpnmphmngdkdaaPmCrashM
import Derived.Shelf.SlIterI.Sorted
import Derived.Shelf.SortM.Plain
import Derived.Shelf.SortM.SortNone
namespace Go.Proofs.Ytfpnmphmngdkdaa
open Go.RowKit Go.Maps Go.Sort Go.Shelf
set_option linter.unusedSimpArgs false
set_option linter.unusedVariables false

def Try.keysA_ren : Go.Shelf.Ren := ⟨fun | 7 => 109 | 10 => 139 | n => n, fun | 23 => 106 | 26 => 3 | 3 => 41 | 28 => 141 | 0 => 0 | 27 => 140 | 33 => 122 | 4 => 4 | n => n, fun | n => n⟩
theorem Try.keysA : Go.Proofs.SlLaysZI.n7 Try.prog Try.keysA_ren where
  mixed := by kernel_rfl
  f7 := ⟨"maps.Keys[map[int]uint64,int,uint64]", by decide, Try.func109.trans (congrArg some (by kernel_rfl))⟩
  f10 := ⟨"maps.Keys[map[int]uint64,int,uint64]$1", by decide, Try.func139.trans (congrArg some (by kernel_rfl))⟩
  t0 := Try.underlying0
  a0 := Try.isAgg0
  z0 := Try.sizeOf0
  v0 := Try.zeroValue0
  t4 := Try.underlying4
  a4 := Try.isAgg4
  z4 := Try.sizeOf4
  v4 := Try.zeroValue4
  t23 := Try.underlying106
  a23 := Try.isAgg106
  z23 := Try.sizeOf106
  v23 := Try.zeroValue106
  t26 := Try.underlying3
  a26 := Try.isAgg3
  z26 := Try.sizeOf3
  v26 := Try.zeroValue3
  t27 := Try.underlying140
  a27 := Try.isAgg140
  z27 := Try.sizeOf140
  v27 := Try.zeroValue140
  t28 := Try.underlying141
  a28 := Try.isAgg141
  z28 := Try.sizeOf141
  v28 := Try.zeroValue141
  t33 := Try.underlying122
  a33 := Try.isAgg122
  z33 := Try.sizeOf122
  v33 := Try.zeroValue122

def Try.sortedA_ren : Go.Shelf.Ren := ⟨fun | 6 => 108 | 8 => 137 | 9 => 138 | 11 => 144 | 13 => 146 | 12 => 145 | 23 => 156 | 24 => 157 | 14 => 147 | 15 => 148 | 16 => 149 | 17 => 150 | 18 => 151 | 19 => 152 | 20 => 153 | 21 => 154 | 22 => 155 | 25 => 158 | 26 => 159 | 27 => 160 | 28 => 161 | 29 => 162 | 30 => 163 | 31 => 164 | n => n, fun | 26 => 3 | 28 => 141 | 24 => 44 | 0 => 0 | 3 => 3 | 37 => 101 | 48 => 149 | 50 => 41 | 4 => 4 | 40 => 174 | 39 => 173 | 45 => 179 | 5 => 5 | 9 => 9 | 51 => 182 | 55 => 186 | 57 => 188 | 58 => 51 | 33 => 122 | n => n, fun | n => n⟩
theorem Try.sortedA : Go.Proofs.SlLaysZI.n6 Try.prog Try.sortedA_ren where
  mixed := by kernel_rfl
  f6 := ⟨"slices.Sorted[int]", by decide, Try.func108.trans (congrArg some (by kernel_rfl))⟩
  f8 := ⟨"slices.Collect[int]", by decide, Try.func137.trans (congrArg some (by kernel_rfl))⟩
  f11 := ⟨"slices.AppendSeq[[]int,int]", by decide, Try.func144.trans (congrArg some (by kernel_rfl))⟩
  t0 := Try.underlying0
  a0 := Try.isAgg0
  z0 := Try.sizeOf0
  v0 := Try.zeroValue0
  t24 := Try.underlying44
  a24 := Try.isAgg44
  z24 := Try.sizeOf44
  v24 := Try.zeroValue44
  t26 := Try.underlying3
  a26 := Try.isAgg3
  z26 := Try.sizeOf3
  v26 := Try.zeroValue3
  t28 := Try.underlying141
  a28 := Try.isAgg141
  z28 := Try.sizeOf141
  v28 := Try.zeroValue141
  i26 := by kernel_rfl

def Try.sortA_ren : Go.Shelf.Ren := ⟨fun | 5 => 138 | 8 => 146 | 7 => 145 | 19 => 156 | 20 => 157 | 10 => 147 | 11 => 148 | 12 => 149 | 13 => 150 | 14 => 151 | 15 => 152 | 16 => 153 | 17 => 154 | 18 => 155 | 30 => 158 | 31 => 159 | 32 => 160 | 33 => 161 | 34 => 162 | 35 => 163 | 40 => 164 | n => n, fun | 23 => 44 | 25 => 3 | 3 => 3 | 32 => 101 | 22 => 44 | 0 => 0 | 44 => 149 | 46 => 41 | 4 => 4 | 36 => 174 | 35 => 173 | 41 => 179 | 5 => 5 | 9 => 9 | 53 => 182 | 57 => 186 | 63 => 188 | 64 => 51 | n => n, fun | n => n⟩
theorem Try.sortA : Go.Proofs.SlLaysM.n5 Try.prog Try.sortA_ren where
  mixed := by kernel_rfl
  f5 := ⟨"slices.Sort[[]int,int]", by decide, Try.func138.trans (congrArg some (by kernel_rfl))⟩
  f7 := ⟨"slices.pdqsortOrdered[int]", by decide, Try.func145.trans (congrArg some (by kernel_rfl))⟩
  f8 := Try.func146.trans (congrArg some (by kernel_rfl))
  f10 := ⟨"slices.insertionSortOrdered[int]", by decide, Try.func147.trans (congrArg some (by kernel_rfl))⟩
  f11 := ⟨"slices.heapSortOrdered[int]", by decide, Try.func148.trans (congrArg some (by kernel_rfl))⟩
  f12 := ⟨"slices.breakPatternsOrdered[int]", by decide, Try.func149.trans (congrArg some (by kernel_rfl))⟩
  f13 := ⟨"slices.choosePivotOrdered[int]", by decide, Try.func150.trans (congrArg some (by kernel_rfl))⟩
  f14 := ⟨"slices.reverseRangeOrdered[int]", by decide, Try.func151.trans (congrArg some (by kernel_rfl))⟩
  f15 := ⟨"slices.partialInsertionSortOrdered[int]", by decide, Try.func152.trans (congrArg some (by kernel_rfl))⟩
  f16 := ⟨"cmp.Less[int]", by decide, Try.func153.trans (congrArg some (by kernel_rfl))⟩
  f17 := ⟨"slices.partitionEqualOrdered[int]", by decide, Try.func154.trans (congrArg some (by kernel_rfl))⟩
  f18 := ⟨"slices.partitionOrdered[int]", by decide, Try.func155.trans (congrArg some (by kernel_rfl))⟩
  f19 := Try.func156.trans (congrArg some (by kernel_rfl))
  f20 := Try.func157.trans (congrArg some (by kernel_rfl))
  f30 := ⟨"slices.siftDownOrdered[int]", by decide, Try.func158.trans (congrArg some (by kernel_rfl))⟩
  f31 := Try.func159.trans (congrArg some (by kernel_rfl))
  f32 := Try.func160.trans (congrArg some (by kernel_rfl))
  f33 := ⟨"slices.medianAdjacentOrdered[int]", by decide, Try.func161.trans (congrArg some (by kernel_rfl))⟩
  f34 := ⟨"slices.medianOrdered[int]", by decide, Try.func162.trans (congrArg some (by kernel_rfl))⟩
  f35 := ⟨"cmp.isNaN[int]", by decide, Try.func163.trans (congrArg some (by kernel_rfl))⟩
  f40 := ⟨"slices.order2Ordered[int]", by decide, Try.func164.trans (congrArg some (by kernel_rfl))⟩
  t0 := Try.underlying0
  a0 := Try.isAgg0
  z0 := Try.sizeOf0
  v0 := Try.zeroValue0
  t3 := Try.underlying3
  a3 := Try.isAgg3
  z3 := Try.sizeOf3
  v3 := Try.zeroValue3
  t4 := Try.underlying4
  a4 := Try.isAgg4
  z4 := Try.sizeOf4
  v4 := Try.zeroValue4
  t5 := Try.underlying5
  a5 := Try.isAgg5
  z5 := Try.sizeOf5
  v5 := Try.zeroValue5
  t9 := Try.underlying9
  a9 := Try.isAgg9
  z9 := Try.sizeOf9
  v9 := Try.zeroValue9
  t22 := Try.underlying44
  a22 := Try.isAgg44
  z22 := Try.sizeOf44
  v22 := Try.zeroValue44
  t23 := Try.underlying44
  a23 := Try.isAgg44
  z23 := Try.sizeOf44
  v23 := Try.zeroValue44
  t25 := Try.underlying3
  a25 := Try.isAgg3
  z25 := Try.sizeOf3
  v25 := Try.zeroValue3
  t32 := Try.underlying101
  a32 := Try.isAgg101
  z32 := Try.sizeOf101
  v32 := Try.zeroValue101
  t35 := Try.underlying173
  a35 := Try.isAgg173
  z35 := Try.sizeOf173
  v35 := Try.zeroValue173
  t36 := Try.underlying174
  a36 := Try.isAgg174
  z36 := Try.sizeOf174
  v36 := Try.zeroValue174
  t41 := Try.underlying179
  a41 := Try.isAgg179
  z41 := Try.sizeOf179
  v41 := Try.zeroValue179
  t44 := Try.underlying149
  a44 := Try.isAgg149
  z44 := Try.sizeOf149
  v44 := Try.zeroValue149
  t46 := Try.underlying41
  a46 := Try.isAgg41
  z46 := Try.sizeOf41
  v46 := Try.zeroValue41
  t53 := Try.underlying182
  a53 := Try.isAgg182
  z53 := Try.sizeOf182
  v53 := Try.zeroValue182
  t57 := Try.underlying186
  a57 := Try.isAgg186
  z57 := Try.sizeOf186
  v57 := Try.zeroValue186
  t63 := Try.underlying188
  a63 := Try.isAgg188
  z63 := Try.sizeOf188
  v63 := Try.zeroValue188
  t64 := Try.underlying51
  a64 := Try.isAgg51
  z64 := Try.sizeOf51
  v64 := Try.zeroValue51

theorem Try.sortsA (m : Nat) : AnyZI.SortsIn Try.prog Try.sortedA_ren Fence.wide m :=
  ⟨fun blk off cap ss W hH hblk hsz => callsIn_wide.2 (AnyM.slices_Sort_int Try.sortA blk off cap ss W hH hblk hsz),
   fun p cap W => callsIn_wide.2 (AnyM.slices_Sort_int_none Try.sortA p cap W)⟩

theorem keys_call (mb : Option Nat) (W : World) : Calls Try.prog 109 #[.map mb] W fun e w' => e = .returned (.func (.func 139) #[] #[.pointer (some ⟨W.heap.size, 0, none⟩)]) ∧ w' = W.alloc (.cells #[.map mb] 106) :=
  (callsIn_wide (n := 6)).1 (AnyZI.keys_in Try.keysA Fence.wide 6 trivial rfl mb W)

theorem sorted_call {H : Type} (b nn : Nat) (D0 : DataW H) (R : Value → Option (DataW H × List MemPlace)) (w : World) (hown : w.ownsMap Try.prog 3 R b nn D0) (hmax : Maps.size D0 ≤ maxLen) (hbytes : Maps.size D0 * 8 ≤ 140737488355328) :
    Calls Try.prog 108 #[.func (.func 139) #[] #[.pointer (some ⟨w.heap.size, 0, none⟩)]] (w.alloc (.cells #[.map (some b)] 106)) fun e w' => ∃ (v : Value) (ss : List Int), e = .returned v ∧ ss.Perm (intKeys D0) ∧
      w'.ownsRow (w.heap.size + 1) 3 1 v ss.length ((ss.mergeSort (fun x y => decide (x ≤ y))).map encZ) ∧ Below (w.heap.size + 1) (w.alloc (.cells #[.map (some b)] 106)) w' := by
  refine (callsIn_wide (n := 6)).1 ?_
  have hbl := hown.lt
  have hseq : SeqGives Fence.wide 3 Try.prog 139 #[.pointer (some ⟨w.heap.size, 0, none⟩)] encZ (fun ss => ss.Perm (intKeys D0)) (Maps.size D0) (w.alloc (.cells #[.map (some b)] 106)) :=
    AnyZI.keys_gives (ρ := Try.keysA_ren) { Try.keysA with } Fence.wide _ trivial rfl (by omega) w.heap.size b nn D0 _ (by simp) (by simp) (by
      obtain ⟨es, clock, hb, Ft, hs, hD⟩ := hown
      exact ⟨es, clock, (Below.heap_alloc _ _ b hbl).trans hb, Ft, hs, hD⟩)
  have cS := AnyZI.sorted_in Try.sortedA Fence.wide 6 trivial trivial trivial trivial rfl (by omega) (Try.sortsA _) (enters_of Try.func138 (by kernel_rfl) rfl) 139 #[.pointer (some ⟨w.heap.size, 0, none⟩)] trivial (enters_of Try.func139 (by kernel_rfl) rfl) _ _ hmax hbytes _ hseq
  change CallsIn _ _ Try.prog 108 _ _ _ at cS
  refine cS.mono ?_
  rintro e w' ⟨v, ss, rfl, hS, hrow, hnil, hb⟩
  have hsz : (w.alloc (.cells #[.map (some b)] 106)).heap.size = w.heap.size + 1 := by simp
  rw [hsz] at hrow hb
  exact ⟨v, ss, rfl, hS, hrow, hb⟩

/-- What the sort gives are the places, ascending. -/
theorem sorted_places {w : World} {b n : Nat} {f : Nat → Option Int} {D : DataW Unit} (hown : w.ownsMap Try.prog 3 (plainElem Try.prog 41) b n D) (hkk : ∀ k : Int, Maps.has D (.int .i64 k) = true → 0 ≤ k ∧ k < n)
    (hf : ∀ k : Nat, k < n → Maps.has D (.int .i64 k) = (f k).isSome) {ss : List Int} (hp : ss.Perm (intKeys D)) :
    ss.length = cnt f n ∧ ss.mergeSort (fun x y => decide (x ≤ y)) = (places f n).map (fun i : Nat => (i : Int)) := by
  have hc : CollectedI D (fun _ => false) ((places f n).map (fun i : Nat => (i : Int))) := by
    refine ⟨?_, fun x => ?_⟩
    · rw [List.nodup_iff_pairwise_ne, List.pairwise_map]
      exact (places_lt f n).imp fun {a b} h e => by omega
    · constructor
      · intro h
        obtain ⟨i, hi, rfl⟩ := List.mem_map.1 h
        have := (places_mem f n i).1 hi
        exact ⟨by rw [hf i this.1]; exact this.2, rfl⟩
      · rintro ⟨h, -⟩
        obtain ⟨h0, h1⟩ := hkk x h
        obtain ⟨i, rfl⟩ := Int.eq_ofNat_of_zero_le h0
        refine List.mem_map.2 ⟨i, (places_mem f n i).2 ⟨by omega, ?_⟩, rfl⟩
        rw [← hf i (by omega)]
        exact h
  have hq := hc.perm hown Try.lawInt Try.underlying3 (fun _ => rfl)
  have hpq := hp.trans hq.symm
  refine ⟨by rw [hpq.length_eq, List.length_map, places_length], ?_⟩
  have e := mergeSort_of_perm_i hpq
  unfold leI at e
  rw [e]
  refine List.mergeSort_of_pairwise ?_
  rw [List.pairwise_map]
  exact (places_lt f n).imp fun {a b} h => by simp; omega

/-- Ints in a row, at their places. -/
def RowI (w : World) (v : Value) (l : List Nat) : Prop :=
  ∃ ao cap, v = .slice ao l.length cap ∧ l.length ≤ cap ∧ cap ≤ maxLen ∧ ∀ k i, l[k]? = some i → ∃ g, ao = some ⟨g, 0, none⟩ ∧ w.cell? ⟨g, k, none⟩ = some (.int .i64 (i : Nat)) 

theorem rowI_of_own {w : World} {base n : Nat} {v : Value} {l : List Nat} (hn : n = l.length) (h : w.ownsRow base 3 1 v n ((l.map (fun i : Nat => (i : Int))).map encZ)) : RowI w v l ∧ ∀ g, v.ownBlock = some g → base ≤ g := by
  subst hn
  rcases h.2 with ⟨rfl, h0⟩ | ⟨g, cap, cur, rfl, hb, hg, hnc, hm, hsz, htk⟩
  · have : l = [] := List.eq_nil_of_length_eq_zero h0
    subst this
    exact ⟨⟨none, 0, rfl, Nat.le_refl _, Nat.zero_le _, fun k i h => by cases h⟩, fun g h => by cases h⟩
  · refine ⟨⟨_, cap, rfl, hnc, hm, fun k i hk => ⟨g, rfl, ?_⟩⟩, fun g' e => by cases e; exact hb⟩
    have hkl := (List.getElem?_eq_some_iff.1 hk).1
    rw [cell_of_row _ _ _ _ _ _ hg]
    have : (cur.toList.take (l.length * 1))[k]? = ((l.map (fun i : Nat => (i : Int))).map encZ)[k]? := by rw [htk]
    rw [List.getElem?_take, if_pos (by omega)] at this
    rw [List.getElem?_map, List.getElem?_map, hk] at this
    simpa using this

/-- slices.Sorted(maps.Keys(m)): the places that have an entry, ascending. -/
theorem sorted_dirty {w : World} {b n : Nat} {f : Nat → Option Int} (h : MapR w b n f) (hn : n ≤ 10000) :
    Calls Try.prog 108 #[.func (.func 139) #[] #[.pointer (some ⟨w.heap.size, 0, none⟩)]] (w.alloc (.cells #[.map (some b)] 106)) fun e w' => ∃ v, e = .returned v ∧ RowI w' v (places f n) ∧ (∀ g, v.ownBlock = some g → w.heap.size < g) ∧ Below (w.heap.size + 1) (w.alloc (.cells #[.map (some b)] 106)) w' := by
  obtain ⟨D, hown, hkk, hf, hv, hs, ho⟩ := h
  have hsz : Maps.size D ≤ 10000 := by rw [hs]; exact Nat.le_trans (cnt_le _ _) hn
  refine (sorted_call b n D _ w hown (by unfold maxLen; omega) (by omega)).mono ?_
  rintro e w' ⟨v, ss, rfl, hp, hrow, hb⟩
  obtain ⟨h1, h2⟩ := sorted_places hown hkk hf hp
  rw [h2, h1] at hrow
  obtain ⟨g1, g2⟩ := rowI_of_own (places_length f n).symm hrow
  exact ⟨v, rfl, g1, fun g hg => g2 g hg, hb⟩
end Go.Proofs.Ytfpnmphmngdkdaa
