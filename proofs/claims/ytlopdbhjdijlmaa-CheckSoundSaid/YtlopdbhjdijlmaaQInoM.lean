/-
  What inode.Put puts, plainly; that it is got again; how many blocks are free then. Nothing is assumed.
  What inode.All tells and inode.Drop does, plainly. Nothing is assumed.
  A sheet, and a table of inodes: what puts, and drops, do to both: plain lemmas. Nothing is assumed.
-/
import Derived.Test.YtlopdbhjdijlmaaQFree8
import Derived.Test.YtlopdbhjdijlmaaQBack
import Derived.Test.YtlopdbhjdijlmaaQRd1Some
import Derived.Test.YtlopdbhjdijlmaaQPutGet2
import Derived.Test.YtlopdbhjdijlmaaQNeed2

namespace Go.Proofs.Ytlopdbhjdijlmaa
set_option linter.unusedSimpArgs false
set_option linter.unusedVariables false

noncomputable def ownI (S : Sh) (i : Int) : List Nat := match getR S i with | some r => r.2 | none => []
noncomputable def needI (n : Ino) : Nat := if n.format = 2 then need2 n else need1 n + more1 n
noncomputable def layI (S : Sh) (i : Int) (n : Ino) : Sh := if n.format = 2 then lay2S S i n else lay1S S i n
open Classical in
noncomputable def putI (S : Sh) (i : Int) (n : Ino) : Int × Sh :=
  if i < 0 ∨ 32 ≤ i then (1, S) else if ¬ RightP n then (1, S) else if getE S i = 10 then (10, S)
  else if needI n ≤ freeN (giveS S (ownI S i)) then (0, layI (giveS S (ownI S i)) i n) else (7, S)

theorem ownI_law {S : Sh} (hS : S.Ok) (i : Int) : (∀ b ∈ ownI S i, b < 256) ∧ (ownI S i).length ≤ 40 := by
  unfold ownI
  cases hr : getR S i with
  | none => exact ⟨fun b hb => (by cases hb), Nat.zero_le _⟩
  | some r =>
    obtain ⟨m, xs⟩ := r
    dsimp only
    unfold getR at hr
    split at hr
    · cases hr
    · split at hr
      · cases hr
      · unfold rdI at hr
        split at hr
        · obtain ⟨-, -, h3, -, h5⟩ := rd2_some hS hr
          exact ⟨fun b hb => (h5.mem b hb).2, by rw [h5.len]; exact need2_le h3⟩
        · obtain ⟨-, -, h3, -, h5⟩ := rd1_some hS hr
          have := need1_le h3
          have := more1_le m
          exact ⟨fun b hb => (h5.mem b hb).2, by rw [h5.len]; omega⟩
theorem getE_cases (S : Sh) (i : Int) : (getE S i = 0 ∧ ∃ r, getR S i = some r) ∨ (getR S i = none ∧ (getE S i = 1 ∨ getE S i = 2 ∨ getE S i = 10)) := by
  unfold getE getR
  split
  · exact .inr ⟨rfl, .inl rfl⟩
  · split
    · exact .inr ⟨rfl, .inr (.inl rfl)⟩
    · cases rdI S i with
      | none => exact .inr ⟨rfl, .inr (.inr rfl)⟩
      | some r => exact .inl ⟨rfl, r, rfl⟩


theorem lay2S_bits (S : Sh) (i : Int) (hi : 0 ≤ i ∧ i < 32) (n : Ino) (hfree : need2 n ≤ freeN S) (c : Nat) (hc : c < 256) : bitB (lay2S S i n) c = (bitB S c || decide (c ∈ own2S S n)) := by
  have h := tookN S (need2 n) hfree
  have hob : ∀ b ∈ own2S S n, b < 256 := fun b hb => (h.mem b hb).2.1
  have e : (lay2S S i n).get ((816 + c / 64 : Nat) : Int) = (takeFrom 255 S 1 (need2 n)).1.get ((816 + c / 64 : Nat) : Int) :=
    put2_out (takeFrom 255 S 1 (need2 n)).1 (at_ := 824 + i * 8) (by omega) n (own2S S n) hob h.len _ (by omega) (fun a ha => by omega)
  rw [get_natx _ _ (by omega), get_natx _ _ (by omega)] at e
  have e2 : bitB (lay2S S i n) c = bitB (takeFrom 255 S 1 (need2 n)).1 c := by unfold bitB; rw [e]
  rw [e2]
  exact h.bits c hc

theorem freeN_congr {S T : Sh} (h : ∀ c, c < 256 → bitB T c = bitB S c) : freeN T = freeN S := by
  rw [freeN_from, freeN_from]
  exact freeFrom_congr S T 255 1 (fun c h1 h2 => h c (by omega))
theorem freeN_take (S : Sh) (n : Nat) (hn : n ≤ freeN S) : freeN (takeFrom 255 S 1 n).1 + n = freeN S := by
  rw [freeN_from, freeN_from]
  exact (takeFrom_law 255 S 1 n (by omega) (by omega) (by rw [← freeN_from]; exact hn)).2.2.2.2.1
theorem freeTo_set (S : Sh) (b : Nat) (hb : b < 256) (h1 : 1 ≤ b) (hu : bitB S b = true) : ∀ k, k ≤ 256 → freeTo (setB S b false) k = freeTo S k + if b < k then 1 else 0 := by
  intro k
  induction k with
  | zero => intro _; rw [if_neg (by omega)]; rfl
  | succ k ih =>
    intro hk
    have hs : freeTo (setB S b false) (k + 1) = freeTo (setB S b false) k + if 1 ≤ k ∧ bitB (setB S b false) k = false then 1 else 0 := rfl
    have hs2 : freeTo S (k + 1) = freeTo S k + if 1 ≤ k ∧ bitB S k = false then 1 else 0 := rfl
    rw [hs, hs2, ih (by omega), bit_setB b hb false k (by omega)]
    by_cases e : k = b
    · subst e
      simp [hu, h1, show ¬ k = 0 by omega]
    · by_cases h2 : b < k
      · simp [e, h2, show b < k + 1 by omega]; omega
      · simp [e, h2, show ¬ b < k + 1 by omega]
theorem giveS_free : ∀ (xs : List Nat) (S : Sh), (∀ b ∈ xs, (1 ≤ b ∧ b < 256) ∧ bitB S b = true) → xs.Pairwise (· ≠ ·) → freeN (giveS S xs) = freeN S + xs.length := by
  intro xs
  induction xs with
  | nil => intro S _ _; simp [giveS]
  | cons b xs ih =>
    intro S h hp
    obtain ⟨⟨h1, h2⟩, h3⟩ := h b (by simp)
    rw [List.pairwise_cons] at hp
    show freeN (giveS (setB S b false) xs) = _
    rw [ih (setB S b false) (fun c hc => ?_) hp.2, List.length_cons]
    · have := freeTo_set S b h2 h1 h3 256 (Nat.le_refl _)
      rw [if_pos h2] at this
      have e : freeN (setB S b false) = freeN S + 1 := this
      omega
    · obtain ⟨h4, h5⟩ := h c (by simp [hc])
      refine ⟨h4, ?_⟩
      rw [bit_setB b h2 false c h4.2, if_neg (fun hh => hp.1 c hc hh.1.symm)]
      exact h5
theorem pair_ne {xs : List Nat} (h : ApartTo xs xs.length) : xs.Pairwise (· ≠ ·) := by
  rw [List.pairwise_iff_getElem]
  intro i j hi hj hij
  have := h i j hij hj
  rw [List.getD_eq_getElem?_getD, List.getElem?_eq_getElem hi, List.getD_eq_getElem?_getD, List.getElem?_eq_getElem hj] at this
  exact this

/-- An inode stands there, with its own blocks. -/
structure InI (T : Sh) (i : Int) (n : Ino) (xs : List Nat) : Prop where
  get : getR T i = some (n, xs)
  err : getE T i = 0
  len : xs.length = needI n
  mem : ∀ b ∈ xs, (1 ≤ b ∧ b < 256) ∧ bitB T b = true
  pair : ApartTo xs xs.length
  bits : True

theorem InI.own {T : Sh} {i : Int} {n : Ino} {xs : List Nat} (h : InI T i n xs) : ownI T i = xs := by unfold ownI; rw [h.get]
theorem InI.free {T : Sh} {i : Int} {n : Ino} {xs : List Nat} (h : InI T i n xs) : freeN (giveS T (ownI T i)) = freeN T + needI n := by
  rw [h.own, giveS_free xs T h.mem (pair_ne h.pair), h.len]

theorem tagW_pos {n : Ino} (hr : RightP n) : 1 ≤ tagW n := by
  obtain ⟨s1, s2, s3, s4, s5⟩ := hr.small
  have hf := hr.1
  unfold tagW
  omega

theorem layI_in (S : Sh) {i : Int} (hi : 0 ≤ i ∧ i < 32) {n : Ino} (hn : n.Ok) (hr : RightP n) (hfree : needI n ≤ freeN S) : ∃ xs, InI (layI S i n) i n xs ∧ freeN (layI S i n) + needI n = freeN S := by
  have hnot : ∀ T : Sh, T.get (824 + i * 8) = tagW n → freeI T i = false := fun T h => freeI_false (fun hh => by
    have := hh.2 0 (by omega)
    have hp := tagW_pos hr
    rw [show 824 + i * 8 + ((0 : Nat) : Int) = 824 + i * 8 by omega] at this
    omega)
  have hi' : ¬ (i < 0 ∨ 32 ≤ i) := by omega
  obtain ⟨s1, s2, s3, s4, s5⟩ := hr.small
  by_cases hf : n.format = 2
  · have hneed : needI n = need2 n := by unfold needI; rw [if_pos hf]
    have hlay : layI S i n = lay2S S i n := by unfold layI; rw [if_pos hf]
    rw [hneed] at hfree ⊢
    rw [hlay]
    have hL := lay2S_laid S i hi n hfree
    have htag : (lay2S S i n).get (824 + i * 8) = tagW n := by
      have := hL.ino 0 (by omega)
      rw [show 824 + i * 8 + ((0 : Nat) : Int) = 824 + i * 8 by omega] at this
      rw [← this]; unfold word2At; rw [if_pos rfl]
    have hrd : rdI (lay2S S i n) i = some (n, own2S S n) := by
      unfold rdI
      rw [htag, if_pos (by rw [(tagW_parts2 hf s2 s3).1]; exact hf)]
      exact rd2_laid hi hL hr hf hn.len
    have hb := lay2S_bits S i hi n hfree
    refine ⟨own2S S n, ⟨?_, ?_, by rw [hneed]; exact hL.len, fun b hbm => ⟨hL.mem b hbm, ?_⟩, hL.pair, trivial⟩, ?_⟩
    · unfold getR; rw [if_neg hi', if_neg (by rw [hnot _ htag]; decide)]; exact hrd
    · unfold getE; rw [if_neg hi', if_neg (by rw [hnot _ htag]; decide), hrd]
    · rw [hb b (hL.mem b hbm).2, decide_eq_true hbm, Bool.or_true]
    · have h := tookN S (need2 n) hfree
      rw [freeN_congr (S := (takeFrom 255 S 1 (need2 n)).1) (T := lay2S S i n) (fun c hc => by rw [hb c hc, h.bits c hc]; rfl)]
      exact freeN_take S _ hfree
  · have hf1 : n.format = 1 := by have := hr.1; omega
    have hneed : needI n = need1 n + more1 n := by unfold needI; rw [if_neg hf]
    have hlay : layI S i n = lay1S S i n := by unfold layI; rw [if_neg hf]
    rw [hneed] at hfree ⊢
    rw [hlay]
    have hL := lay1S_laid S i hi n hr hfree
    have htag : (lay1S S i n).get (824 + i * 8) = tagW n := hL.laid.tag
    have hrd : rdI (lay1S S i n) i = some (n, layX S n) := by
      unfold rdI
      rw [htag, if_neg (by rw [(tagW_parts hf1 s2 s3).1]; omega)]
      exact rd1_laid hi hL hr hf1 hn.len
    have hb := lay1S_bits S i hi n hr hfree
    refine ⟨layX S n, ⟨?_, ?_, by rw [hneed]; exact hL.len, fun b hbm => ⟨hL.mem b hbm, ?_⟩, hL.pair, trivial⟩, ?_⟩
    · unfold getR; rw [if_neg hi', if_neg (by rw [hnot _ htag]; decide)]; exact hrd
    · unfold getE; rw [if_neg hi', if_neg (by rw [hnot _ htag]; decide), hrd]
    · rw [hb b (hL.mem b hbm).2, decide_eq_true hbm, Bool.or_true]
    · have h := tookN S (need1 n + more1 n) hfree
      rw [freeN_congr (S := (takeFrom 255 S 1 (need1 n + more1 n)).1) (T := lay1S S i n) (fun c hc => by rw [hb c hc, h.bits c hc]; rfl)]
      exact freeN_take S _ hfree

theorem put_in {S : Sh} {i : Int} (hi : 0 ≤ i ∧ i < 32) {n : Ino} (hn : n.Ok) (hr : RightP n) (he : getE S i ≠ 10) (hfree : needI n ≤ freeN (giveS S (ownI S i))) :
    (putI S i n).1 = 0 ∧ ∃ xs, InI (putI S i n).2 i n xs ∧ freeN (putI S i n).2 + needI n = freeN (giveS S (ownI S i)) := by
  have hp : putI S i n = (0, layI (giveS S (ownI S i)) i n) := by
    unfold putI
    rw [if_neg (by omega), if_neg (fun h => h hr), if_neg he, if_pos hfree]
  rw [hp]
  exact ⟨rfl, layI_in _ hi hn hr hfree⟩
theorem put_space {S : Sh} {i : Int} (hi : 0 ≤ i ∧ i < 32) {n : Ino} (hr : RightP n) (he : getE S i ≠ 10) (hfree : ¬ needI n ≤ freeN (giveS S (ownI S i))) : putI S i n = (7, S) := by
  unfold putI
  rw [if_neg (by omega), if_neg (fun h => h hr), if_neg he, if_neg hfree]
theorem get_free {S : Sh} {i : Int} (hi : 0 ≤ i ∧ i < 32) (hz : ∀ j : Int, 824 + i * 8 ≤ j → j < 832 + i * 8 → S.get j = 0) : freeI S i = true ∧ getE S i = 2 ∧ ownI S i = [] := by
  have hf : freeI S i = true := (freeI_iff S i).2 ⟨hi, fun j hj => hz _ (by omega) (by omega)⟩
  have hr : getR S i = none := by unfold getR; rw [if_neg (by omega), if_pos hf]
  refine ⟨hf, ?_, ?_⟩
  · unfold getE; rw [if_neg (by omega), if_pos hf]
  · unfold ownI; rw [hr]
theorem needI_le {n : Ino} (hr : RightP n) : needI n ≤ 40 := by
  unfold needI
  split
  · exact need2_le hr
  · have := need1_le hr
    have := more1_le n
    omega
end Go.Proofs.Ytlopdbhjdijlmaa

namespace Go.Proofs.Ytlopdbhjdijlmaa
set_option linter.unusedSimpArgs false
set_option linter.unusedVariables false

/-- A file's blocks that are some. -/
def blkN (l : List Int) : List Nat := (l.filter fun x => decide (x ≠ 0)).map Int.toNat
theorem blkN_snoc (l : List Int) (x : Int) : blkN (l ++ [x]) = if x = 0 then blkN l else blkN l ++ [x.toNat] := by
  unfold blkN
  rw [List.filter_append, List.map_append]
  by_cases h : x = 0
  · rw [if_pos h]; simp [h]
  · rw [if_neg h]; simp [h]
theorem blkN_len (l : List Int) : (blkN l).length ≤ l.length := by
  unfold blkN
  rw [List.length_map]
  exact List.length_filter_le _ _
noncomputable def allI (S : Sh) (i : Int) : List Nat := match getR S i with | some r => r.2 ++ blkN r.1.bl | none => []
noncomputable def dropI (S : Sh) (i : Int) : Int × Sh := if getE S i = 0 then (0, putN (giveS S (allI S i)) (824 + i * 8) (fun _ => 0) 8) else (getE S i, S)

theorem getR_law {S : Sh} (hS : S.Ok) {i : Int} {m : Ino} {xs : List Nat} (h : getR S i = some (m, xs)) : (0 ≤ i ∧ i < 32) ∧ m.Ok ∧ RightP m ∧ (∀ b ∈ xs, b < 256) ∧ xs.length ≤ 40 := by
  have ho := ownI_law hS i
  have e : ownI S i = xs := by unfold ownI; rw [h]
  rw [e] at ho
  unfold getR at h
  split at h
  · cases h
  · split at h
    · cases h
    · unfold rdI at h
      split at h
      · obtain ⟨h1, h2, h3, -, -⟩ := rd2_some hS h
        exact ⟨h1, h2, h3, ho.1, ho.2⟩
      · obtain ⟨h1, h2, h3, -, -⟩ := rd1_some hS h
        exact ⟨h1, h2, h3, ho.1, ho.2⟩
theorem bl_range {n : Ino} (hr : RightP n) (k : Nat) (hk : k < 13) : 0 ≤ n.bl.getD k 0 ∧ n.bl.getD k 0 < 256 := by
  rcases hr.2.2.2 with ⟨-, h, -⟩ | ⟨-, -, -, -, h⟩
  · exact (h k hk).1
  · rw [h k hk]; omega
theorem blkN_mem {n : Ino} (hn : n.bl.length = 13) (hr : RightP n) : ∀ b ∈ blkN n.bl, b < 256 := by
  intro b hb
  unfold blkN at hb
  obtain ⟨x, hx, rfl⟩ := List.mem_map.1 hb
  obtain ⟨q, hq, rfl⟩ := List.mem_iff_getElem.1 (List.mem_filter.1 hx).1
  have := bl_range hr q (by omega)
  rw [List.getD_eq_getElem?_getD, List.getElem?_eq_getElem hq] at this
  simp only [Option.getD_some] at this
  omega
theorem allI_law {S : Sh} (hS : S.Ok) (i : Int) : (∀ b ∈ allI S i, b < 256) ∧ (allI S i).length ≤ 53 := by
  unfold allI
  cases hr : getR S i with
  | none => exact ⟨fun b hb => (by cases hb), Nat.zero_le _⟩
  | some r =>
    obtain ⟨m, xs⟩ := r
    obtain ⟨h1, h2, h3, h4, h5⟩ := getR_law hS hr
    dsimp only
    refine ⟨fun b hb => ?_, ?_⟩
    · rcases List.mem_append.1 hb with h | h
      · exact h4 b h
      · exact blkN_mem h2.len h3 b h
    · have := blkN_len m.bl
      have := h2.len
      rw [List.length_append]
      omega
theorem getE_range {S : Sh} {i : Int} (h : getE S i = 0) : 0 ≤ i ∧ i < 32 := by
  unfold getE at h
  split at h
  · cases h
  · omega
theorem dropI_free {S : Sh} {i : Int} (h : getE S i = 0) : (dropI S i).1 = 0 ∧ freeI (dropI S i).2 i = true := by
  have hi := getE_range h
  unfold dropI
  rw [if_pos h]
  refine ⟨rfl, (freeI_iff _ _).2 ⟨hi, fun j hj => ?_⟩⟩
  show (putN (giveS S (allI S i)) (824 + i * 8) (fun _ => 0) 8).get _ = 0
  rw [putN_get _ _ _ (by omega) 8 (by omega), if_pos (by omega)]
theorem getE_none {S : Sh} {i : Int} (h : getE S i ≠ 0) : getR S i = none := by
  rcases getE_cases S i with ⟨h1, -⟩ | ⟨h1, -⟩
  · exact absurd h1 h
  · exact h1
theorem getE_some {S : Sh} {i : Int} (h : getE S i = 0) : ∃ m xs, getR S i = some (m, xs) := by
  rcases getE_cases S i with ⟨-, ⟨m, xs⟩, h1⟩ | ⟨-, h1⟩
  · exact ⟨m, xs, h1⟩
  · omega
end Go.Proofs.Ytlopdbhjdijlmaa

namespace Go.Proofs.Ytlopdbhjdijlmaa
set_option linter.unusedSimpArgs false
set_option linter.unusedVariables false

/-- An inode's words, and its own blocks', as they were laid. -/
def LaidX (S : Sh) (i : Int) (n : Ino) (xs : List Nat) : Prop := if n.format = 2 then Laid2 S i n xs else LaidI S i n xs

theorem Laid2.congr {T T' : Sh} {i : Int} {n : Ino} {xs : List Nat} (h : Laid2 T i n xs) (h1 : ∀ k : Nat, k < 8 → T'.get (824 + i * 8 + (k : Int)) = T.get (824 + i * 8 + (k : Int)))
    (h2 : ∀ x ∈ xs, ∀ r : Nat, r < 8 → T'.get (1080 + (x : Int) * 8 + (r : Int)) = T.get (1080 + (x : Int) * 8 + (r : Int))) : Laid2 T' i n xs :=
  ⟨h.len, h.mem, h.pair, fun k hk => by rw [h1 k hk]; exact h.ino k hk, fun a ha r hr => by rw [h2 _ (getD_in0 ha) r hr]; exact h.blk a ha r hr⟩

theorem LaidX.congr {T T' : Sh} {i : Int} {n : Ino} {xs : List Nat} (h : LaidX T i n xs) (h1 : ∀ k : Nat, k < 8 → T'.get (824 + i * 8 + (k : Int)) = T.get (824 + i * 8 + (k : Int)))
    (h2 : ∀ x ∈ xs, ∀ r : Nat, r < 8 → T'.get (1080 + (x : Int) * 8 + (r : Int)) = T.get (1080 + (x : Int) * 8 + (r : Int))) : LaidX T' i n xs := by
  unfold LaidX at *
  split
  · rename_i hf
    rw [if_pos hf] at h
    exact h.congr h1 h2
  · rename_i hf
    rw [if_neg hf] at h
    exact h.congr h1 h2

theorem LaidX.mem {T : Sh} {i : Int} {n : Ino} {xs : List Nat} (h : LaidX T i n xs) : ∀ b ∈ xs, 1 ≤ b ∧ b < 256 := by
  unfold LaidX at h
  split at h
  · exact h.mem
  · exact h.mem
theorem LaidX.len {T : Sh} {i : Int} {n : Ino} {xs : List Nat} (h : LaidX T i n xs) : xs.length = needI n := by
  unfold LaidX at h
  unfold needI
  split at h
  · rename_i hf; rw [if_pos hf]; exact h.len
  · rename_i hf; rw [if_neg hf]; exact h.len
theorem LaidX.pair {T : Sh} {i : Int} {n : Ino} {xs : List Nat} (h : LaidX T i n xs) : ApartTo xs xs.length := by
  unfold LaidX at h
  split at h
  · exact h.pair
  · exact h.pair

theorem laidX_get {T : Sh} {i : Int} (hi : 0 ≤ i ∧ i < 32) {n : Ino} {xs : List Nat} (hn : n.Ok) (hr : RightP n) (h : LaidX T i n xs) : freeI T i = false ∧ getE T i = 0 ∧ getR T i = some (n, xs) := by
  have hi' : ¬ (i < 0 ∨ 32 ≤ i) := by omega
  obtain ⟨s1, s2, s3, s4, s5⟩ := hr.small
  have hnot : T.get (824 + i * 8) = tagW n → freeI T i = false := fun h => freeI_false (fun hh => by
    have := hh.2 0 (by omega)
    have hp := tagW_pos hr
    rw [show 824 + i * 8 + ((0 : Nat) : Int) = 824 + i * 8 by omega] at this
    omega)
  have hmain : T.get (824 + i * 8) = tagW n ∧ rdI T i = some (n, xs) := by
    unfold LaidX at h
    by_cases hf : n.format = 2
    · rw [if_pos hf] at h
      have htag : T.get (824 + i * 8) = tagW n := by
        have := h.ino 0 (by omega)
        rw [show 824 + i * 8 + ((0 : Nat) : Int) = 824 + i * 8 by omega] at this
        rw [← this]; unfold word2At; rw [if_pos rfl]
      refine ⟨htag, ?_⟩
      unfold rdI
      rw [htag, if_pos (by rw [(tagW_parts2 hf s2 s3).1]; exact hf)]
      exact rd2_laid hi h hr hf hn.len
    · rw [if_neg hf] at h
      have hf1 : n.format = 1 := by have := hr.1; omega
      refine ⟨h.laid.tag, ?_⟩
      unfold rdI
      rw [h.laid.tag, if_neg (by rw [(tagW_parts hf1 s2 s3).1]; omega)]
      exact rd1_laid hi h hr hf1 hn.len
  obtain ⟨htag, hrd⟩ := hmain
  have hff := hnot htag
  refine ⟨hff, ?_, ?_⟩
  · unfold getE; rw [if_neg hi', if_neg (by rw [hff]; decide), hrd]
  · unfold getR; rw [if_neg hi', if_neg (by rw [hff]; decide)]; exact hrd

theorem giveS_get (l : List Nat) (hl : ∀ b ∈ l, b < 256) (j : Int) (hj : 820 ≤ j) : ∀ S : Sh, (giveS S l).get j = S.get j := by
  induction l with
  | nil => intro S; rfl
  | cons b l ih =>
    intro S
    show (giveS (setB S b false) l).get j = _
    rw [ih (fun c hc => hl c (by simp [hc]))]
    by_cases h : j < 3128
    · have e : j = ((j.toNat : Nat) : Int) := by omega
      rw [e, get_natx _ _ (by omega), get_natx _ _ (by omega), now_setB S b (hl b (by simp)) false j.toNat (.inr (by omega))]
    · unfold Sh.get
      rw [if_neg (by omega), if_neg (by omega)]
theorem giveS_bit (l : List Nat) (hl : ∀ b ∈ l, b < 256) (c : Nat) (hc : c < 256) (hn : c ∉ l) : ∀ S : Sh, bitB (giveS S l) c = bitB S c := by
  induction l with
  | nil => intro S; rfl
  | cons b l ih =>
    intro S
    show bitB (giveS (setB S b false) l) c = _
    rw [ih (fun c hc => hl c (by simp [hc])) (fun h => hn (by simp [h])), bit_setB b (hl b (by simp)) false c hc, if_neg (fun h => hn (by simp [h.1]))]

/-- What is laid, and what is left as it was. -/
structure LayFact (S T : Sh) (i : Int) (n : Ino) (ys : List Nat) : Prop where
  laid : LaidX T i n ys
  new : ∀ y ∈ ys, bitB S y = false
  bits : ∀ c, c < 256 → bitB T c = (bitB S c || decide (c ∈ ys))
  out : ∀ j : Int, 820 ≤ j → (j < 824 + i * 8 ∨ 832 + i * 8 ≤ j) → (∀ y ∈ ys, j < 1080 + (y : Int) * 8 ∨ 1088 + (y : Int) * 8 ≤ j) → T.get j = S.get j
  free : freeN T + needI n = freeN S
theorem lay_fact (S : Sh) {i : Int} (hi : 0 ≤ i ∧ i < 32) {n : Ino} (hr : RightP n) (hfree : needI n ≤ freeN S) : ∃ ys, LayFact S (layI S i n) i n ys := by
  by_cases hf : n.format = 2
  · have hneed : needI n = need2 n := by unfold needI; rw [if_pos hf]
    have hlay : layI S i n = lay2S S i n := by unfold layI; rw [if_pos hf]
    rw [hneed] at hfree
    rw [hlay]
    have h := tookN S (need2 n) hfree
    have hb := lay2S_bits S i hi n hfree
    refine ⟨own2S S n, ?_, fun y hy => (h.mem y hy).2.2, hb, fun j h8 hj hx => lay2S_out S i hi n hfree j h8 hj hx, ?_⟩
    · unfold LaidX; rw [if_pos hf]; exact lay2S_laid S i hi n hfree
    · rw [hneed, freeN_congr (S := (takeFrom 255 S 1 (need2 n)).1) (T := lay2S S i n) (fun c hc => by rw [hb c hc, h.bits c hc]; rfl)]
      exact freeN_take S _ hfree
  · have hneed : needI n = need1 n + more1 n := by unfold needI; rw [if_neg hf]
    have hlay : layI S i n = lay1S S i n := by unfold layI; rw [if_neg hf]
    rw [hneed] at hfree
    rw [hlay]
    have h := tookN S (need1 n + more1 n) hfree
    have hb := lay1S_bits S i hi n hr hfree
    refine ⟨layX S n, ?_, fun y hy => (h.mem y hy).2.2, hb, fun j h8 hj hx => lay1S_out S i hi n hr hfree j h8 hj hx, ?_⟩
    · unfold LaidX; rw [if_neg hf]; exact lay1S_laid S i hi n hr hfree
    · rw [hneed, freeN_congr (S := (takeFrom 255 S 1 (need1 n + more1 n)).1) (T := lay1S S i n) (fun c hc => by rw [hb c hc, h.bits c hc]; rfl)]
      exact freeN_take S _ hfree

/-- How many blocks the first inodes of a table take. -/
noncomputable def usedT (t : Nat → Ino) : Nat → Nat
  | 0 => 0
  | k + 1 => usedT t k + if 0 < (t k).format then needI (t k) else 0

theorem usedT_set (t : Nat → Ino) (i : Nat) (n : Ino) : ∀ k, usedT (fun j => if j = i then n else t j) k + (if i < k then (if 0 < (t i).format then needI (t i) else 0) else 0) = usedT t k + (if i < k then (if 0 < n.format then needI n else 0) else 0) := by
  intro k
  induction k with
  | zero => simp [usedT]
  | succ k ih =>
    simp only [usedT]
    by_cases e : k = i
    · subst e
      rw [if_neg (by omega), if_neg (by omega)] at ih
      rw [if_pos (show k < k + 1 by omega), if_pos (show k < k + 1 by omega), if_pos rfl]
      omega
    · rw [if_neg e]
      by_cases h : i < k
      · rw [if_pos h, if_pos h] at ih
        rw [if_pos (show i < k + 1 by omega), if_pos (show i < k + 1 by omega)]
        omega
      · rw [if_neg h, if_neg h] at ih
        rw [if_neg (show ¬ i < k + 1 by omega), if_neg (show ¬ i < k + 1 by omega)]
        omega

/-- A sheet that holds a table. -/
structure TabR (S : Sh) (t : Nat → Ino) (xs : Nat → List Nat) (room : Nat) : Prop where
  zero : ∀ i, i < 32 → (t i).format = 0 → xs i = [] ∧ ∀ j : Int, 824 + (i : Int) * 8 ≤ j → j < 832 + (i : Int) * 8 → S.get j = 0
  inn : ∀ i, i < 32 → (t i).format ≠ 0 → LaidX S (i : Int) (t i) (xs i) ∧ RightP (t i) ∧ (t i).Ok ∧ (t i).bl = List.replicate 13 0
  used : ∀ i, i < 32 → ∀ b ∈ xs i, bitB S b = true
  disj : ∀ i j, i < 32 → j < 32 → i ≠ j → ∀ b ∈ xs i, b ∉ xs j
  count : freeN S + usedT t 32 = room

theorem TabR.pos {S : Sh} {t : Nat → Ino} {xs : Nat → List Nat} {room : Nat} (h : TabR S t xs room) {i : Nat} (hi : i < 32) : (t i).format ≠ 0 → 0 < (t i).format := fun h0 => by
  have := (h.inn i hi h0).2.1.1
  omega
theorem TabR.get {S : Sh} {t : Nat → Ino} {xs : Nat → List Nat} {room : Nat} (h : TabR S t xs room) {i : Nat} (hi : i < 32) :
    ((t i).format = 0 ∧ freeI S (i : Int) = true ∧ getE S (i : Int) = 2 ∧ getR S (i : Int) = none ∧ ownI S (i : Int) = xs i) ∨ ((t i).format ≠ 0 ∧ freeI S (i : Int) = false ∧ getE S (i : Int) = 0 ∧ getR S (i : Int) = some (t i, xs i) ∧ ownI S (i : Int) = xs i) := by
  by_cases h0 : (t i).format = 0
  · obtain ⟨h1, h2⟩ := h.zero i hi h0
    obtain ⟨g1, g2, g3⟩ := get_free (S := S) (i := (i : Int)) ⟨by omega, by omega⟩ h2
    exact .inl ⟨h0, g1, g2, by unfold getR; rw [if_neg (by omega), if_pos g1], by rw [g3, h1]⟩
  · obtain ⟨h1, h2, h3, h4⟩ := h.inn i hi h0
    obtain ⟨g1, g2, g3⟩ := laidX_get (i := (i : Int)) ⟨by omega, by omega⟩ h3 h2 h1
    exact .inr ⟨h0, g1, g2, g3, by unfold ownI; rw [g3]⟩

theorem TabR.mem {S : Sh} {t : Nat → Ino} {xs : Nat → List Nat} {room : Nat} (h : TabR S t xs room) {i : Nat} (hi : i < 32) : ∀ b ∈ xs i, 1 ≤ b ∧ b < 256 := by
  by_cases h0 : (t i).format = 0
  · rw [(h.zero i hi h0).1]; intro b hb; cases hb
  · exact (h.inn i hi h0).1.mem
theorem TabR.given {S : Sh} {t : Nat → Ino} {xs : Nat → List Nat} {room : Nat} (h : TabR S t xs room) {i : Nat} (hi : i < 32) : freeN (giveS S (xs i)) = freeN S + (if 0 < (t i).format then needI (t i) else 0) := by
  by_cases h0 : (t i).format = 0
  · rw [(h.zero i hi h0).1, if_neg (by omega)]
    show freeN S = _
    omega
  · obtain ⟨h1, h2, h3, h4⟩ := h.inn i hi h0
    rw [if_pos (h.pos hi h0), giveS_free (xs i) S (fun b hb => ⟨h.mem hi b hb, h.used i hi b hb⟩) (pair_ne h1.pair), h1.len]

/-- How many blocks an inode of the table has. -/
noncomputable def oldT (t : Nat → Ino) (i : Nat) : Nat := if 0 < (t i).format then needI (t i) else 0
def setT {α : Type} (t : Nat → α) (i : Nat) (n : α) : Nat → α := fun j => if j = i then n else t j
theorem setT_same {α : Type} (t : Nat → α) (i : Nat) (n : α) : setT t i n i = n := by unfold setT; rw [if_pos rfl]
theorem setT_ne {α : Type} (t : Nat → α) {i j : Nat} (n : α) (h : j ≠ i) : setT t i n j = t j := by unfold setT; rw [if_neg h]

theorem TabR.put {S : Sh} {t : Nat → Ino} {xs : Nat → List Nat} {room : Nat} (h : TabR S t xs room) {i : Nat} (hi : i < 32) {m : Ino} (hm : m.Ok) (hr : RightP m) (hz : m.bl = List.replicate 13 0) :
    (needI m ≤ freeN S + oldT t i → (putI S (i : Int) m).1 = 0 ∧ ∃ ys, TabR (putI S (i : Int) m).2 (setT t i m) (setT xs i ys) room) ∧ (¬ needI m ≤ freeN S + oldT t i → putI S (i : Int) m = (7, S)) := by
  have hir : 0 ≤ (i : Int) ∧ (i : Int) < 32 := by omega
  have hgv := h.given hi
  have hown : ownI S (i : Int) = xs i := by rcases h.get hi with ⟨-, -, -, -, g⟩ | ⟨-, -, -, -, g⟩ <;> exact g
  have hne : getE S (i : Int) ≠ 10 := by rcases h.get hi with ⟨-, -, g, -, -⟩ | ⟨-, -, g, -, -⟩ <;> rw [g] <;> decide
  have hfr : freeN (giveS S (ownI S (i : Int))) = freeN S + oldT t i := by rw [hown, hgv]; rfl
  refine ⟨fun hn => ?_, fun hn => put_space hir hr hne (by rw [hfr]; exact hn)⟩
  have hp : putI S (i : Int) m = (0, layI (giveS S (xs i)) (i : Int) m) := by
    unfold putI
    rw [if_neg (by omega), if_neg (fun g => g hr), if_neg hne, if_pos (by rw [hfr]; exact hn), hown]
  have hxb : ∀ b ∈ xs i, b < 256 := fun b hb => (h.mem hi b hb).2
  obtain ⟨ys, hL⟩ := lay_fact (giveS S (xs i)) hir hr (by rw [← hown, hfr]; exact hn)
  rw [hp]
  refine ⟨rfl, ys, ?_⟩
  have hym := hL.laid.mem
  -- the blocks of others are none of the new ones
  have hdis : ∀ j, j < 32 → j ≠ i → ∀ b ∈ xs j, b ∉ ys := fun j hj hji b hb hy => by
    have h1 := hL.new b hy
    have h2 := h.used j hj b hb
    rw [giveS_bit (xs i) hxb b (h.mem hj b hb).2 (h.disj j i hj hi hji b hb) S, h2] at h1
    cases h1
  have hsame : ∀ j : Int, 820 ≤ j → (j < 824 + (i : Int) * 8 ∨ 832 + (i : Int) * 8 ≤ j) → (∀ y ∈ ys, j < 1080 + (y : Int) * 8 ∨ 1088 + (y : Int) * 8 ≤ j) → (layI (giveS S (xs i)) (i : Int) m).get j = S.get j := fun j h8 hj hy => by
    rw [hL.out j h8 hj hy, giveS_get (xs i) hxb j h8 S]
  have hf0 : m.format ≠ 0 := by have := hr.1; omega
  refine ⟨fun j hj h0 => ?_, fun j hj h0 => ?_, fun j hj b hb => ?_, fun j k hj hk hjk b hb => ?_, ?_⟩
  · by_cases e : j = i
    · subst e; rw [setT_same] at h0; exact absurd h0 hf0
    · rw [setT_ne _ _ e] at h0
      rw [setT_ne _ _ e]
      obtain ⟨g1, g2⟩ := h.zero j hj h0
      refine ⟨g1, fun q q1 q2 => ?_⟩
      show (layI (giveS S (xs i)) (i : Int) m).get q = 0
      rw [hsame q (by omega) (by omega) (fun y hy => by have := hym y hy; omega)]
      exact g2 q q1 q2
  · by_cases e : j = i
    · subst e
      rw [setT_same, setT_same]
      exact ⟨hL.laid, hr, hm, hz⟩
    · rw [setT_ne _ _ e] at h0
      rw [setT_ne _ _ e, setT_ne _ _ e]
      obtain ⟨g1, g2, g3, g4⟩ := h.inn j hj h0
      refine ⟨g1.congr (fun q hq => ?_) (fun b hb r hr => ?_), g2, g3, g4⟩
      · exact hsame _ (by omega) (by omega) (fun y hy => by have := hym y hy; omega)
      · have hbm := h.mem hj b hb
        refine hsame _ (by omega) (by omega) (fun y hy => ?_)
        have : b ≠ y := fun e2 => hdis j hj e b hb (by rw [e2]; exact hy)
        omega
  · show bitB (layI (giveS S (xs i)) (i : Int) m) b = true
    by_cases e : j = i
    · subst e
      rw [setT_same] at hb
      rw [hL.bits b (hym b hb).2, decide_eq_true hb, Bool.or_true]
    · rw [setT_ne _ _ e] at hb
      rw [hL.bits b (h.mem hj b hb).2, giveS_bit (xs i) hxb b (h.mem hj b hb).2 (h.disj j i hj hi e b hb) S, h.used j hj b hb]
      rfl
  · by_cases e : j = i
    · subst e
      rw [setT_same] at hb
      rw [setT_ne _ _ (Ne.symm hjk)]
      exact fun hk2 => hdis k hk (Ne.symm hjk) b hk2 hb
    · rw [setT_ne _ _ e] at hb
      by_cases e2 : k = i
      · subst e2
        rw [setT_same]
        exact hdis j hj e b hb
      · rw [setT_ne _ _ e2]
        exact h.disj j k hj hk hjk b hb
  · show freeN (layI (giveS S (xs i)) (i : Int) m) + usedT (setT t i m) 32 = room
    have h1 := hL.free
    have h2 := usedT_set t i m 32
    have h3 := h.count
    rw [hgv] at h1
    rw [if_pos hi, if_pos hi, if_pos (show 0 < m.format by have := hr.1; omega)] at h2
    have e : usedT (setT t i m) 32 = usedT (fun j => if j = i then m else t j) 32 := rfl
    omega

theorem putN_bit (S : Sh) (at_ : Int) (ha : 820 ≤ at_ ∧ at_ ≤ 3000) (k : Nat) (hk : k ≤ 8) (c : Nat) (hc : c < 256) : bitB (putN S at_ (fun _ => 0) k) c = bitB S c := by
  have e := putN_get S at_ (fun _ => 0) (by omega) k (by omega) ((816 + c / 64 : Nat) : Int)
  rw [if_neg (by omega), get_natx _ _ (by omega), get_natx _ _ (by omega)] at e
  unfold bitB
  rw [e]

theorem TabR.drop {S : Sh} {t : Nat → Ino} {xs : Nat → List Nat} {room : Nat} (h : TabR S t xs room) {i : Nat} (hi : i < 32) :
    ((t i).format = 0 → dropI S (i : Int) = (2, S)) ∧ ((t i).format ≠ 0 → (dropI S (i : Int)).1 = 0 ∧ TabR (dropI S (i : Int)).2 (setT t i ino0) (setT xs i []) room) := by
  refine ⟨fun h0 => ?_, fun h0 => ?_⟩
  · rcases h.get hi with ⟨-, -, g, -, -⟩ | ⟨g, -, -, -, -⟩
    · unfold dropI; rw [if_neg (by rw [g]; decide), g]
    · exact absurd h0 g
  · rcases h.get hi with ⟨g, -⟩ | ⟨-, g1, g2, g3, g4⟩
    · exact absurd g h0
    · have hall : allI S (i : Int) = xs i := by
        unfold allI
        rw [g3]
        dsimp only
        rw [(h.inn i hi h0).2.2.2]
        have : blkN (List.replicate 13 0) = [] := by decide
        rw [this, List.append_nil]
      have hd : dropI S (i : Int) = (0, putN (giveS S (xs i)) (824 + (i : Int) * 8) (fun _ => 0) 8) := by unfold dropI; rw [if_pos g2, hall]
      have hxb : ∀ b ∈ xs i, b < 256 := fun b hb => (h.mem hi b hb).2
      have hgv := h.given hi
      obtain ⟨T, hT⟩ : ∃ T, T = putN (giveS S (xs i)) (824 + (i : Int) * 8) (fun _ => 0) 8 := ⟨_, rfl⟩
      have hget : ∀ j : Int, 820 ≤ j → (j < 824 + (i : Int) * 8 ∨ 832 + (i : Int) * 8 ≤ j) → T.get j = S.get j := fun j h8 hj => by
        rw [hT, putN_get _ _ _ (by omega) 8 (by omega), if_neg (by omega), giveS_get (xs i) hxb j h8 S]
      have hzr : ∀ j : Int, 824 + (i : Int) * 8 ≤ j → j < 832 + (i : Int) * 8 → T.get j = 0 := fun j q1 q2 => by
        rw [hT, putN_get _ _ _ (by omega) 8 (by omega), if_pos (by omega)]
      have hbit : ∀ c, c < 256 → bitB T c = bitB (giveS S (xs i)) c := fun c hc => by rw [hT]; exact putN_bit _ _ (by omega) 8 (by omega) c hc
      have hfT : freeN T = freeN (giveS S (xs i)) := freeN_congr hbit
      rw [hd, ← hT]
      clear hT hd
      refine ⟨rfl, ?_⟩
      dsimp only
      refine ⟨fun j hj h0 => ?_, fun j hj h0 => ?_, fun j hj b hb => ?_, fun j k hj hk hjk b hb => ?_, ?_⟩
      · by_cases e : j = i
        · subst e
          rw [setT_same]
          exact ⟨rfl, hzr⟩
        · rw [setT_ne _ _ e] at h0
          rw [setT_ne _ _ e]
          obtain ⟨f1, f2⟩ := h.zero j hj h0
          exact ⟨f1, fun q q1 q2 => (hget q (by omega) (by omega)).trans (f2 q q1 q2)⟩
      · by_cases e : j = i
        · subst e; rw [setT_same] at h0; exact absurd rfl h0
        · rw [setT_ne _ _ e] at h0
          rw [setT_ne _ _ e, setT_ne _ _ e]
          obtain ⟨f1, f2, f3, f4⟩ := h.inn j hj h0
          refine ⟨f1.congr (fun q hq => hget _ (by omega) (by omega)) (fun b hb r hr => ?_), f2, f3, f4⟩
          have hbm := h.mem hj b hb
          exact hget _ (by omega) (by omega)
      · by_cases e : j = i
        · subst e; rw [setT_same] at hb; cases hb
        · rw [setT_ne _ _ e] at hb
          rw [hbit b (h.mem hj b hb).2, giveS_bit (xs i) hxb b (h.mem hj b hb).2 (h.disj j i hj hi e b hb) S]
          exact h.used j hj b hb
      · by_cases e : j = i
        · subst e; rw [setT_same] at hb; cases hb
        · rw [setT_ne _ _ e] at hb
          by_cases e2 : k = i
          · subst e2; rw [setT_same]; intro hc; cases hc
          · rw [setT_ne _ _ e2]
            exact h.disj j k hj hk hjk b hb
      · have h2 := usedT_set t i ino0 32
        have h3 := h.count
        rw [hfT, hgv]
        rw [if_pos hi, if_pos hi, if_neg (show ¬ 0 < ino0.format by decide)] at h2
        have e : usedT (setT t i ino0) 32 = usedT (fun j => if j = i then ino0 else t j) 32 := rfl
        omega
end Go.Proofs.Ytlopdbhjdijlmaa
