/-
  What slices.Clone at words, tx.New, tx.Words, tx.Pairs, tx.Block and tx.Inode answer: contracts. No condition but the bounds that are typed.
-/
import Derived.Test.YtfpnmphmngdkdaaTx
import Derived.Laws.AppendOwnNone
namespace Go.Proofs.Ytfpnmphmngdkdaa
open Go.ChangeShapes Go.WideShapes Go.ChangeAt Go.RowKit
set_option linter.unusedSimpArgs false
set_option linter.unusedVariables false

def u64s (xs : List Int) : List Value := xs.map (Value.int .u64)

/-- What a slice value of words holds, in whatever block. -/
def HoldsU (w : World) (v : Value) (xs : List Int) : Prop :=
  ∃ ao c, v = .slice ao xs.length c ∧ (ao = none → c = 0) ∧ xs.length ≤ c ∧ c ≤ maxLen ∧ (∀ ad, ao = some ad → ∀ j u, (u64s xs)[j]? = some u → w.cell? (ad.add j) = some u)

theorem HoldsU.nil (w : World) : HoldsU w (.slice none 0 0) [] := ⟨none, 0, rfl, fun _ => rfl, Nat.le_refl _, Nat.zero_le _, fun ad h => by cases h⟩

theorem holdsU_of_own {w : World} {base : Nat} {v : Value} {xs : List Int} (h : w.ownsRow base 41 1 v xs.length (u64s xs)) : HoldsU w v xs := by
  obtain ⟨ao, cap, rfl, h1, h2, h3⟩ := own_shape h
  refine ⟨ao, cap, rfl, ?_, h1, h2, ?_⟩
  · rintro rfl
    rcases h.2 with ⟨hv, _⟩ | ⟨g, c, cur, hv, _⟩
    · simp at hv; exact hv.2
    · simp at hv
  · rintro ad rfl j u hu
    obtain ⟨_, _, e⟩ := h3 ad rfl
    rw [e] at h ⊢
    exact h.cells rfl j u hu

theorem clone_u64 {w : World} {v : Value} {xs : List Int} (hv : HoldsU w v xs) (hlen : xs.length ≤ 17592186044416) :
    Calls Try.prog 90 #[v] w fun e w' => ∃ v', e = .returned v' ∧ w'.ownsRow w.heap.size 41 1 v' xs.length (u64s xs) ∧ Below w.heap.size w w' := by
  obtain ⟨i0, hi0, hz0, hz1, hz2⟩ := info_parts Try.infoU64
  obtain ⟨ao, c, rfl, hao, hlc, hcm, hcells⟩ := hv
  have heq := fun wx => Lib.run_eql_slice_nil (P := Try.prog) wx 53 41 ao xs.length c 0 0 Try.underlying53
  have HC := Lib.hid hcells
  clear hcells
  unfold maxLen at hcm
  cases ao with
  | none =>
    obtain rfl : c = 0 := hao rfl
    have hx : xs = [] := List.eq_nil_of_length_eq_zero (by omega)
    subst hx
    clear hao
    simp only [List.length_nil] at heq ⊢
    go_enter Try.func90, Try.ntmps90
    go_wp2
    go_ret
    exact ⟨_, rfl, World.ownsRow_nil _ _ _ _, Below.refl _ _⟩
  | some ad =>
    clear hao
    have HN : Hid (∀ j u, (u64s xs)[j]? = some u → (w.alloc (.cells #[] 41)).cell? (ad.add j) = some u) := by
      intro j u hu
      have := HC.out ad rfl j u hu
      rw [World.cell?_alloc_some _ _ _ (by rw [this]; rfl)]
      exact this
    have hone : ∀ u ∈ u64s xs, u.oneCell' = true := ints_oneCell _ _
    have HO := Lib.hid hone
    have hl : (u64s xs).length = xs.length * 1 := by simp [u64s]
    have HL := Lib.hid hl
    clear hone hl
    go_enter Try.func90, Try.ntmps90
    go_wp2_with (at_builtin; refine wpList_append_own _ rfl (.tmp 5) (.tmp 6) 53 rfl w.heap.size 41 i0 (.int .u64 0) 1 8 Try.underlying53 hi0 hz0 hz1 hz2 rfl (by decide) _ 0 [] rfl (World.ownsRow_lit w #[] 0 (Nat.le_refl _) (Nat.zero_le _) rfl) ad xs.length c (u64s xs) rfl HL.out HN.out HO.out (by unfold maxLen; omega) (by omega) (by simp) ?_)
    intro v' w1 hown1 hgr1 _
    have Hown := Lib.hid hown1
    have Hgr := Lib.hid hgr1
    clear hown1 hgr1
    go_wp2
    go_ret
    exact ⟨v', rfl, Hown.out, ((Below.refl _ _).alloc (Nat.le_refl _) _).grown Hgr.out (by simp) (by intro k hk; simp [Value.ownBlock] at hk; omega)⟩

theorem block_any (n : Int) (w : World) :
    Calls Try.prog 122 #[.int .i64 n] w fun e w' => e = .returned (.int .i64 (if n < 0 ∨ 256 ≤ n then -1 else 1080 + n * 8)) ∧ w = w' := by
  by_cases h1 : n < 0
  · go_enter Try.func122, Try.ntmps122
    go_wp2
    go_ret
    simp [h1]
  · by_cases h2 : 256 ≤ n
    · go_enter Try.func122, Try.ntmps122
      go_wp2
      go_ret
      simp [h2]
    · have h3 : 0 ≤ n := by omega
      have h4 : n < 256 := by omega
      go_enter Try.func122, Try.ntmps122
      go_wp2
      go_ret
      simp [h1, h2]

theorem inode_any (n : Int) (w : World) :
    Calls Try.prog 79 #[.int .i64 n] w fun e w' => e = .returned (.int .i64 (if n < 0 ∨ 32 ≤ n then -1 else 824 + n * 8)) ∧ w = w' := by
  by_cases h1 : n < 0
  · go_enter Try.func79, Try.ntmps79
    go_wp2
    go_ret
    simp [h1]
  · by_cases h2 : 32 ≤ n
    · go_enter Try.func79, Try.ntmps79
      go_wp2
      go_ret
      simp [h2]
    · have h3 : 0 ≤ n := by omega
      have h4 : n < 32 := by omega
      go_enter Try.func79, Try.ntmps79
      go_wp2
      go_ret
      simp [h1, h2]

theorem HoldsU.below {w w' : World} {v : Value} {xs : List Int} (h : HoldsU w v xs) (hb : Below w.heap.size w w') : HoldsU w' v xs := by
  obtain ⟨ao, c, rfl, h1, h2, h3, h4⟩ := h
  exact ⟨ao, c, rfl, h1, h2, h3, fun ad ha j u hu => by
    have := h4 ad ha j u hu
    rw [hb.cell (World.block_lt_of_cell? w _ this)]
    exact this⟩

/-- So many noughts, behind a name. -/
def zeroRow (n : Nat) : List Value := List.replicate n (Value.int .u64 0)
theorem zeroRow_length (n : Nat) : (zeroRow n).length = n := List.length_replicate
theorem zeroRow_get (n i : Nat) (hi : i < n) : (zeroRow n)[i]? = some (.int .u64 0) := by
  unfold zeroRow
  rw [List.getElem?_replicate, if_pos hi]

/-- The row that make and copy leave. -/
def newRow (n : Nat) (xs : List Int) : List Value := splice (zeroRow n) 0 ((u64s xs).take n)

theorem take_len (n : Nat) (xs : List Int) : ((u64s xs).take n).length = min n xs.length := by simp [u64s]

theorem newRow_length (n : Nat) (xs : List Int) : (newRow n xs).length = n := by
  unfold newRow
  rw [length_splice]
  · exact zeroRow_length n
  · rw [take_len, zeroRow_length]; omega

theorem newRow_get (n : Nat) (xs : List Int) (i : Nat) (hi : i < n) : (newRow n xs)[i]? = some (.int .u64 (xs.getD i 0)) := by
  unfold newRow splice
  simp only [List.take_zero, List.nil_append, Nat.zero_add]
  by_cases h : i < xs.length
  · rw [List.getElem?_append_left (by rw [take_len]; omega), List.getElem?_take, if_pos hi]
    simp [u64s, h]
  · rw [List.getElem?_append_right (by rw [take_len]; omega), List.getElem?_drop, take_len]
    rw [zeroRow_get _ _ (by omega)]
    simp [h]

/-- What make leaves, as a block. -/
theorem made_block {w1 : World} {base g n : Nat} {e : TypeId} (h : w1.ownsRow base e 1 (.slice (some ⟨g, 0, none⟩) n n) n (madeCells (Value.int .u64 0).cells (n * 1)).toList) :
    w1.heap[g]? = some (.cells (zeroRow n).toArray e (0, 0)) := by
  rcases h.2 with ⟨hv, _⟩ | ⟨g', cap', cur, hv, _, hg, _, _, hsz, htk⟩
  · simp at hv
  · simp only [Value.slice.injEq, Option.some.injEq, Addr.mk.injEq, and_true, true_and] at hv
    obtain ⟨rfl, rfl⟩ := hv
    rw [hg]
    have e1 : cur.toList = (madeCells (Value.int .u64 0).cells (n * 1)).toList := by
      rw [← htk, List.take_of_length_le (by simp [hsz])]
    have e2 : (madeCells (Value.int .u64 0).cells (n * 1)).toList = zeroRow n := by
      rw [Nat.mul_one]
      exact toList_madeCells_one _ _
    rw [e2] at e1
    rw [← e1]

/-- Words, cut or filled up with noughts. -/
def pad (n : Nat) (xs : List Int) : List Int := (List.range n).map fun i => xs.getD i 0
theorem pad_length (n : Nat) (xs : List Int) : (pad n xs).length = n := by simp [pad]
theorem pad_get (n : Nat) (xs : List Int) (i : Nat) (hi : i < n) : (pad n xs)[i]? = some (xs.getD i 0) := by
  unfold pad
  rw [List.getElem?_map, List.getElem?_range hi]
  rfl

theorem newRow_eq (n : Nat) (xs : List Int) : newRow n xs = u64s (pad n xs) := by
  apply List.ext_getElem?
  intro i
  by_cases hi : i < n
  · rw [newRow_get n xs i hi]
    unfold u64s
    rw [List.getElem?_map, pad_get n xs i hi]
    rfl
  · rw [List.getElem?_eq_none (by rw [newRow_length]; omega), List.getElem?_eq_none (by unfold u64s; rw [List.length_map, pad_length]; omega)]

theorem words_pad {w : World} {g c : Nat} {xs : List Int} {cs : Array Value} (hg : w.heap[g]? = some (.cells cs 41 (0, 0))) (hs : cs.size = c) (h1 : 3128 ≤ c) (h2 : c ≤ maxLen) (hc : cs.toList.take 3128 = u64s (pad 3128 xs)) :
    Words w g c (Sh.new xs).beneath := by
  refine ⟨cs, hg, hs, h1, h2, fun i hi => ?_⟩
  have : (cs.toList.take 3128)[i]? = some (.int .u64 ((Sh.new xs).beneath i)) := by
    rw [hc]
    unfold u64s
    rw [List.getElem?_map, pad_get _ _ i hi]
    simp only [Sh.new, if_pos hi]
    rfl
  rw [List.getElem?_take, if_pos hi] at this
  simpa using this

theorem sheet_made {w w2 w3 : World} {xs : List Int} {v' : Value} {B : Nat} (hB : w.heap.size ≤ B) (hh : w2.heap[B]? = some (.cells (newRow 3128 xs).toArray 41 (0, 0))) (hb2 : Below w.heap.size w w2) (hb3 : Below w2.heap.size w2 w3)
    (ho : w3.ownsRow w2.heap.size 41 1 v' (pad 3128 xs).length (u64s (pad 3128 xs))) (hwf : ∀ z ∈ xs, 0 ≤ z ∧ z < 18446744073709551616) :
    SheetAt (w3.alloc (.cells #[.slice (some ⟨B, 0, none⟩) 3128 3128, v', .slice none 0 0] 124)) w3.heap.size (grow nob w (w3.alloc (.cells #[.slice (some ⟨B, 0, none⟩) 3128 3128, v', .slice none 0 0] 124))) (Sh.new xs) := by
  rw [pad_length] at ho
  have hlB := lt_of_block hh
  have hs2 := hb2.size
  have hs3 := hb3.size
  rcases ho.2 with ⟨_, h0⟩ | ⟨g, cap, cur, rfl, hg, hgc, hn, hm, hsz, htk⟩
  · omega
  have hlg := lt_of_block hgc
  have ha : Mod nob w3 (w3.alloc (.cells #[.slice (some ⟨B, 0, none⟩) 3128 3128, .slice (some ⟨g, 0, none⟩) 3128 cap, .slice none 0 0] 124)) := (Mod.refl _ _).alloc _
  have hB3 : w3.heap[B]? = some (.cells (newRow 3128 xs).toArray 41 (0, 0)) := by rw [hb3.block B hlB]; exact hh
  rw [newRow_eq] at hB3
  refine ⟨B, g, 3128, cap, .slice none 0 0, heap_alloc_new _ _, ?_, ?_, World.ownsRow_nil _ _ _ _, Sh.Ok.new hwf, by omega, by omega, by omega, ?_, ?_, ?_, ?_, ?_, ?_⟩
  · exact (words_pad hB3 (by simp [u64s, pad_length]) (by omega) (by unfold maxLen; omega) (by rw [List.take_of_length_le (by simp [u64s, pad_length])])).mod ha (fun h => h)
  · exact (words_pad hgc (by simpa using hsz) hn hm (by simpa using htk)).mod ha (fun h => h)
  · intro k hk; simp [Value.ownBlock] at hk
  · exact .inr ⟨by omega, by simp⟩
  · exact .inr ⟨hB, by simp; omega⟩
  · exact .inr ⟨by omega, by simp; omega⟩
  · intro k hk; simp [Value.ownBlock] at hk
  · intro b hb
    rcases hb with hb | hb
    · exact hb.elim
    · exact hb.2

set_option maxRecDepth 20000 in
theorem tx_new {w : World} {v : Value} {xs : List Int} (hv : HoldsU w v xs) (hwf : ∀ z ∈ xs, 0 ≤ z ∧ z < 18446744073709551616) :
    Calls Try.prog 70 #[v] w fun e w' => ∃ p, e = .returned (.pointer (some ⟨p, 0, none⟩)) ∧ SheetAt w' p (grow nob w w') (Sh.new xs) ∧ Below w.heap.size w w' := by
  obtain ⟨i0, hi0, hz0, hz1, hz2⟩ := info_parts Try.infoU64
  have HV := Lib.hid hv
  have HWF := Lib.hid hwf
  clear hwf
  obtain ⟨ao, c, rfl, hao, hlc, hcm, hcells⟩ := hv
  have HAO := Lib.hid hao
  clear hcells hao
  unfold maxLen at hcm
  go_enter Try.func70, Try.ntmps70
  go_wp2_with (at_make; refine wpList_make_full _ rfl _ _ 53 rfl w.heap.size 41 i0 (.int .u64 0) 1 Try.underlying53 hi0 hz0 hz1 .i64 .i64 3128 3128 3128 rfl rfl rfl rfl (by rw [hz2]; omega) (by unfold maxLen; omega) (Nat.le_refl _) ?_)
  intro w1 hown1 hgr1
  have hb1 : Below w.heap.size w w1 := (Below.refl _ _).grown hgr1 (Nat.le_refl _) (by intro k hk; cases hk)
  have hh := made_block hown1
  have hv1 := HV.out.below hb1
  have hs1 := lt_of_block hh
  have HH := Lib.hid hh
  have HV1 := Lib.hid hv1
  have HB1 := Lib.hid hb1
  clear hown1 hgr1 hh hv1 hb1
  go_wp2_with (with_reducible refine wpList_copy_splice (o := ⟨some 7, _, _, _, _, _⟩) rfl _ _ 53 53 rfl 41 Try.underlying53 (by kernel_rfl) _ _ _ _ _ _ rfl rfl w.heap.size 0 (zeroRow 3128) 41 HH.out ((u64s xs).take 3128) ?_ ?_ ?_ ?_ w.heap.size w HB1.out (Nat.le_refl _) ?_)
  · rw [take_len]; rw [Nat.min_comm]
  · intro hpos
    obtain ⟨ao', c', e, _, _, _, hc⟩ := HV1.out
    simp only [Value.slice.injEq] at e
    obtain ⟨rfl, _, rfl⟩ := e
    have hx : 0 < xs.length := by
      rw [Nat.lt_min] at hpos
      simpa [u64s] using hpos.2
    cases ao with
    | none => have := HAO.out rfl; omega
    | some ad =>
      refine ⟨ad, rfl, fun j v hj => hc ad rfl j v ?_⟩
      rw [List.getElem?_take] at hj
      split at hj
      · exact hj
      · cases hj
  · rw [take_len, zeroRow_length]; omega
  · intro u hu
    exact ints_oneCell _ _ u (List.mem_of_mem_take hu)
  · intro w2 hh2 hb2
    have hs2 := lt_of_block hh2.out
    have hv2 : HoldsU w2 (.slice (some ⟨w.heap.size, 0, none⟩) 3128 3128) (pad 3128 xs) := by
      refine ⟨some ⟨w.heap.size, 0, none⟩, 3128, by rw [pad_length], (by intro h; cases h), (by rw [pad_length]; omega), (by unfold maxLen; omega), ?_⟩
      intro ad ha j u hu
      simp at ha
      subst ha
      have hadd : (⟨w.heap.size, 0, none⟩ : Addr).add j = ⟨w.heap.size, j, none⟩ := by unfold Addr.add; split <;> simp_all
      rw [hadd, cell_of_row _ _ _ _ _ _ hh2.out]
      have e : splice (zeroRow 3128) 0 ((u64s xs).take 3128) = u64s (pad 3128 xs) := newRow_eq 3128 xs
      rw [e]
      simpa using hu
    have HV2 := Lib.hid hv2
    have HB2 := Lib.hid hb2
    clear hv2 hb2 hlc hcm
    go_wp2_with (go_at_call 90; refine (clone_u64 HV2.out (by rw [pad_length]; omega)).mono ?_; rintro e w3 ⟨v', rfl, ho3, hb3⟩; obtain ⟨g', cap', rfl, _⟩ := own_some ho3 (by rw [pad_length]; omega); have HO3 := Lib.hid ho3; have HB3 := Lib.hid hb3; clear ho3 hb3)
    go_ret
    refine ⟨w3.heap.size, rfl, sheet_made (Nat.le_refl _) hh2.out HB2.out HB3.out HO3.out HWF.out, ?_⟩
    have s2 := HB2.out.size
    exact (HB2.out.trans (HB3.out.mono s2)).alloc (by have := HB3.out.size; omega) _
end Go.Proofs.Ytfpnmphmngdkdaa
