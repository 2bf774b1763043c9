/-
  What inode.Put puts, plainly; that it is got again; how many blocks are free then. Nothing is assumed.
-/
import Derived.Test.YtlopdbhjdijlmaaQFree8
import Derived.Test.YtlopdbhjdijlmaaQBack
import Derived.Test.YtlopdbhjdijlmaaQRd1Some
import Derived.Test.YtlopdbhjdijlmaaQPutGet2

namespace Go.Proofs.Ytlopdbhjdijlmaa
set_option linter.unusedSimpArgs false
set_option linter.unusedVariables false

noncomputable def ownI (S : Sh) (i : Int) : List Nat := match getR S i with | some r => r.2 | none => []
noncomputable def needI (n : Ino) : Nat := if n.format = 2 then need2 n else need1 n + more1 n
noncomputable def layI (S : Sh) (i : Int) (n : Ino) : Sh := if n.format = 2 then lay2S S i n else lay1S S i n
open Classical in
noncomputable def putI (S : Sh) (i : Int) (n : Ino) : Int × Sh :=
  if i < 0 ∨ 32 ≤ i then (1, S) else if ¬ RightP n then (1, S) else if getE S i = 10 then (10, S)
  else if needI n ≤ freeN (giveS S (ownI S i)) then (0, layI (giveS S (ownI S i)) i n) else (7, S)

theorem ownI_law {S : Sh} (hS : S.Ok) (i : Int) : (∀ b ∈ ownI S i, b < 256) ∧ (ownI S i).length ≤ 40 := by
  unfold ownI
  cases hr : getR S i with
  | none => exact ⟨fun b hb => (by cases hb), Nat.zero_le _⟩
  | some r =>
    obtain ⟨m, xs⟩ := r
    dsimp only
    unfold getR at hr
    split at hr
    · cases hr
    · split at hr
      · cases hr
      · unfold rdI at hr
        split at hr
        · obtain ⟨-, -, h3, -, h5⟩ := rd2_some hS hr
          exact ⟨fun b hb => (h5.mem b hb).2, by rw [h5.len]; exact need2_le h3⟩
        · obtain ⟨-, -, h3, -, h5⟩ := rd1_some hS hr
          have := need1_le h3
          have := more1_le m
          exact ⟨fun b hb => (h5.mem b hb).2, by rw [h5.len]; omega⟩
theorem getE_cases (S : Sh) (i : Int) : (getE S i = 0 ∧ ∃ r, getR S i = some r) ∨ (getR S i = none ∧ (getE S i = 1 ∨ getE S i = 2 ∨ getE S i = 10)) := by
  unfold getE getR
  split
  · exact .inr ⟨rfl, .inl rfl⟩
  · split
    · exact .inr ⟨rfl, .inr (.inl rfl)⟩
    · cases rdI S i with
      | none => exact .inr ⟨rfl, .inr (.inr rfl)⟩
      | some r => exact .inl ⟨rfl, r, rfl⟩


theorem lay2S_bits (S : Sh) (i : Int) (hi : 0 ≤ i ∧ i < 32) (n : Ino) (hfree : need2 n ≤ freeN S) (c : Nat) (hc : c < 256) : bitB (lay2S S i n) c = (bitB S c || decide (c ∈ own2S S n)) := by
  have h := tookN S (need2 n) hfree
  have hob : ∀ b ∈ own2S S n, b < 256 := fun b hb => (h.mem b hb).2.1
  have e : (lay2S S i n).get ((816 + c / 64 : Nat) : Int) = (takeFrom 255 S 1 (need2 n)).1.get ((816 + c / 64 : Nat) : Int) :=
    put2_out (takeFrom 255 S 1 (need2 n)).1 (at_ := 824 + i * 8) (by omega) n (own2S S n) hob h.len _ (by omega) (fun a ha => by omega)
  rw [get_natx _ _ (by omega), get_natx _ _ (by omega)] at e
  have e2 : bitB (lay2S S i n) c = bitB (takeFrom 255 S 1 (need2 n)).1 c := by unfold bitB; rw [e]
  rw [e2]
  exact h.bits c hc

theorem freeN_congr {S T : Sh} (h : ∀ c, c < 256 → bitB T c = bitB S c) : freeN T = freeN S := by
  rw [freeN_from, freeN_from]
  exact freeFrom_congr S T 255 1 (fun c h1 h2 => h c (by omega))
theorem freeN_take (S : Sh) (n : Nat) (hn : n ≤ freeN S) : freeN (takeFrom 255 S 1 n).1 + n = freeN S := by
  rw [freeN_from, freeN_from]
  exact (takeFrom_law 255 S 1 n (by omega) (by omega) (by rw [← freeN_from]; exact hn)).2.2.2.2.1
theorem freeTo_set (S : Sh) (b : Nat) (hb : b < 256) (h1 : 1 ≤ b) (hu : bitB S b = true) : ∀ k, k ≤ 256 → freeTo (setB S b false) k = freeTo S k + if b < k then 1 else 0 := by
  intro k
  induction k with
  | zero => intro _; rw [if_neg (by omega)]; rfl
  | succ k ih =>
    intro hk
    have hs : freeTo (setB S b false) (k + 1) = freeTo (setB S b false) k + if 1 ≤ k ∧ bitB (setB S b false) k = false then 1 else 0 := rfl
    have hs2 : freeTo S (k + 1) = freeTo S k + if 1 ≤ k ∧ bitB S k = false then 1 else 0 := rfl
    rw [hs, hs2, ih (by omega), bit_setB b hb false k (by omega)]
    by_cases e : k = b
    · subst e
      simp [hu, h1, show ¬ k = 0 by omega]
    · by_cases h2 : b < k
      · simp [e, h2, show b < k + 1 by omega]; omega
      · simp [e, h2, show ¬ b < k + 1 by omega]
theorem giveS_free : ∀ (xs : List Nat) (S : Sh), (∀ b ∈ xs, (1 ≤ b ∧ b < 256) ∧ bitB S b = true) → xs.Pairwise (· ≠ ·) → freeN (giveS S xs) = freeN S + xs.length := by
  intro xs
  induction xs with
  | nil => intro S _ _; simp [giveS]
  | cons b xs ih =>
    intro S h hp
    obtain ⟨⟨h1, h2⟩, h3⟩ := h b (by simp)
    rw [List.pairwise_cons] at hp
    show freeN (giveS (setB S b false) xs) = _
    rw [ih (setB S b false) (fun c hc => ?_) hp.2, List.length_cons]
    · have := freeTo_set S b h2 h1 h3 256 (Nat.le_refl _)
      rw [if_pos h2] at this
      have e : freeN (setB S b false) = freeN S + 1 := this
      omega
    · obtain ⟨h4, h5⟩ := h c (by simp [hc])
      refine ⟨h4, ?_⟩
      rw [bit_setB b h2 false c h4.2, if_neg (fun hh => hp.1 c hc hh.1.symm)]
      exact h5
theorem pair_ne {xs : List Nat} (h : ApartTo xs xs.length) : xs.Pairwise (· ≠ ·) := by
  rw [List.pairwise_iff_getElem]
  intro i j hi hj hij
  have := h i j hij hj
  rw [List.getD_eq_getElem?_getD, List.getElem?_eq_getElem hi, List.getD_eq_getElem?_getD, List.getElem?_eq_getElem hj] at this
  exact this

/-- An inode stands there, with its own blocks. -/
structure InI (T : Sh) (i : Int) (n : Ino) (xs : List Nat) : Prop where
  get : getR T i = some (n, xs)
  err : getE T i = 0
  len : xs.length = needI n
  mem : ∀ b ∈ xs, (1 ≤ b ∧ b < 256) ∧ bitB T b = true
  pair : ApartTo xs xs.length
  bits : True

theorem InI.own {T : Sh} {i : Int} {n : Ino} {xs : List Nat} (h : InI T i n xs) : ownI T i = xs := by unfold ownI; rw [h.get]
theorem InI.free {T : Sh} {i : Int} {n : Ino} {xs : List Nat} (h : InI T i n xs) : freeN (giveS T (ownI T i)) = freeN T + needI n := by
  rw [h.own, giveS_free xs T h.mem (pair_ne h.pair), h.len]

theorem tagW_pos {n : Ino} (hr : RightP n) : 1 ≤ tagW n := by
  obtain ⟨s1, s2, s3, s4, s5⟩ := hr.small
  have hf := hr.1
  unfold tagW
  omega

theorem layI_in (S : Sh) {i : Int} (hi : 0 ≤ i ∧ i < 32) {n : Ino} (hn : n.Ok) (hr : RightP n) (hfree : needI n ≤ freeN S) : ∃ xs, InI (layI S i n) i n xs ∧ freeN (layI S i n) + needI n = freeN S := by
  have hnot : ∀ T : Sh, T.get (824 + i * 8) = tagW n → freeI T i = false := fun T h => freeI_false (fun hh => by
    have := hh.2 0 (by omega)
    have hp := tagW_pos hr
    rw [show 824 + i * 8 + ((0 : Nat) : Int) = 824 + i * 8 by omega] at this
    omega)
  have hi' : ¬ (i < 0 ∨ 32 ≤ i) := by omega
  obtain ⟨s1, s2, s3, s4, s5⟩ := hr.small
  by_cases hf : n.format = 2
  · have hneed : needI n = need2 n := by unfold needI; rw [if_pos hf]
    have hlay : layI S i n = lay2S S i n := by unfold layI; rw [if_pos hf]
    rw [hneed] at hfree ⊢
    rw [hlay]
    have hL := lay2S_laid S i hi n hfree
    have htag : (lay2S S i n).get (824 + i * 8) = tagW n := by
      have := hL.ino 0 (by omega)
      rw [show 824 + i * 8 + ((0 : Nat) : Int) = 824 + i * 8 by omega] at this
      rw [← this]; unfold word2At; rw [if_pos rfl]
    have hrd : rdI (lay2S S i n) i = some (n, own2S S n) := by
      unfold rdI
      rw [htag, if_pos (by rw [(tagW_parts2 hf s2 s3).1]; exact hf)]
      exact rd2_laid hi hL hr hf hn.len
    have hb := lay2S_bits S i hi n hfree
    refine ⟨own2S S n, ⟨?_, ?_, by rw [hneed]; exact hL.len, fun b hbm => ⟨hL.mem b hbm, ?_⟩, hL.pair, trivial⟩, ?_⟩
    · unfold getR; rw [if_neg hi', if_neg (by rw [hnot _ htag]; decide)]; exact hrd
    · unfold getE; rw [if_neg hi', if_neg (by rw [hnot _ htag]; decide), hrd]
    · rw [hb b (hL.mem b hbm).2, decide_eq_true hbm, Bool.or_true]
    · have h := tookN S (need2 n) hfree
      rw [freeN_congr (S := (takeFrom 255 S 1 (need2 n)).1) (T := lay2S S i n) (fun c hc => by rw [hb c hc, h.bits c hc]; rfl)]
      exact freeN_take S _ hfree
  · have hf1 : n.format = 1 := by have := hr.1; omega
    have hneed : needI n = need1 n + more1 n := by unfold needI; rw [if_neg hf]
    have hlay : layI S i n = lay1S S i n := by unfold layI; rw [if_neg hf]
    rw [hneed] at hfree ⊢
    rw [hlay]
    have hL := lay1S_laid S i hi n hr hfree
    have htag : (lay1S S i n).get (824 + i * 8) = tagW n := hL.laid.tag
    have hrd : rdI (lay1S S i n) i = some (n, layX S n) := by
      unfold rdI
      rw [htag, if_neg (by rw [(tagW_parts hf1 s2 s3).1]; omega)]
      exact rd1_laid hi hL hr hf1 hn.len
    have hb := lay1S_bits S i hi n hr hfree
    refine ⟨layX S n, ⟨?_, ?_, by rw [hneed]; exact hL.len, fun b hbm => ⟨hL.mem b hbm, ?_⟩, hL.pair, trivial⟩, ?_⟩
    · unfold getR; rw [if_neg hi', if_neg (by rw [hnot _ htag]; decide)]; exact hrd
    · unfold getE; rw [if_neg hi', if_neg (by rw [hnot _ htag]; decide), hrd]
    · rw [hb b (hL.mem b hbm).2, decide_eq_true hbm, Bool.or_true]
    · have h := tookN S (need1 n + more1 n) hfree
      rw [freeN_congr (S := (takeFrom 255 S 1 (need1 n + more1 n)).1) (T := lay1S S i n) (fun c hc => by rw [hb c hc, h.bits c hc]; rfl)]
      exact freeN_take S _ hfree

theorem put_in {S : Sh} {i : Int} (hi : 0 ≤ i ∧ i < 32) {n : Ino} (hn : n.Ok) (hr : RightP n) (he : getE S i ≠ 10) (hfree : needI n ≤ freeN (giveS S (ownI S i))) :
    (putI S i n).1 = 0 ∧ ∃ xs, InI (putI S i n).2 i n xs ∧ freeN (putI S i n).2 + needI n = freeN (giveS S (ownI S i)) := by
  have hp : putI S i n = (0, layI (giveS S (ownI S i)) i n) := by
    unfold putI
    rw [if_neg (by omega), if_neg (fun h => h hr), if_neg he, if_pos hfree]
  rw [hp]
  exact ⟨rfl, layI_in _ hi hn hr hfree⟩
theorem put_space {S : Sh} {i : Int} (hi : 0 ≤ i ∧ i < 32) {n : Ino} (hr : RightP n) (he : getE S i ≠ 10) (hfree : ¬ needI n ≤ freeN (giveS S (ownI S i))) : putI S i n = (7, S) := by
  unfold putI
  rw [if_neg (by omega), if_neg (fun h => h hr), if_neg he, if_neg hfree]
theorem get_free {S : Sh} {i : Int} (hi : 0 ≤ i ∧ i < 32) (hz : ∀ j : Int, 824 + i * 8 ≤ j → j < 832 + i * 8 → S.get j = 0) : freeI S i = true ∧ getE S i = 2 ∧ ownI S i = [] := by
  have hf : freeI S i = true := (freeI_iff S i).2 ⟨hi, fun j hj => hz _ (by omega) (by omega)⟩
  have hr : getR S i = none := by unfold getR; rw [if_neg (by omega), if_pos hf]
  refine ⟨hf, ?_, ?_⟩
  · unfold getE; rw [if_neg (by omega), if_pos hf]
  · unfold ownI; rw [hr]
theorem needI_le {n : Ino} (hr : RightP n) : needI n ≤ 40 := by
  unfold needI
  split
  · exact need2_le hr
  · have := need1_le hr
    have := more1_le n
    omega
end Go.Proofs.Ytlopdbhjdijlmaa
