/-
  Blocks given out: the bits of a sheet, set and counted: plain functions. No program here.
-/
import Derived.Test.YtfpnmphmngdkdaaTxM
namespace Go.Proofs.Ytfpnmphmngdkdaa
set_option linter.unusedVariables false

/-- Is a block's bit set? -/
def bitB (S : Sh) (b : Nat) : Bool := (S.now (816 + b / 64)).toNat.testBit (b % 64)

/-- The word with a bit turned. -/
def flipW (S : Sh) (b : Nat) : Nat := (S.now (816 + b / 64)).toNat ^^^ 2 ^ (b % 64)

def setB (S : Sh) (b : Nat) (u : Bool) : Sh := if b = 0 ∨ bitB S b = u then S else S.put ((816 + b / 64 : Nat) : Int) (flipW S b : Nat)

theorem flipW_lt {S : Sh} (h : S.Ok) (b : Nat) : flipW S b < 18446744073709551616 := by
  unfold flipW
  have h1 := h.now (816 + b / 64)
  have h2 : (S.now (816 + b / 64)).toNat < 2 ^ 64 := by omega
  have h3 : 2 ^ (b % 64) < 2 ^ 64 := Nat.pow_lt_pow_right (by decide) (Nat.mod_lt _ (by decide))
  exact Nat.xor_lt_two_pow h2 h3

theorem setB_ok {S : Sh} (h : S.Ok) (b : Nat) (u : Bool) : (setB S b u).Ok := by
  unfold setB
  split
  · exact h
  · exact h.put _ _ (by omega) (by have := flipW_lt h b; omega)

theorem setB_was (S : Sh) (b : Nat) (u : Bool) : (setB S b u).was.length ≤ S.was.length + 1 := by
  unfold setB
  split
  · omega
  · exact Sh.put_was_le _ _ _

theorem now_put (S : Sh) (i : Nat) (v : Int) (h : i < 3128) (k : Nat) : (S.put (i : Int) v).now k = if k = i then v else S.now k := by
  unfold Sh.put
  rw [if_pos (by omega)]
  simp only [upd, Int.toNat_natCast]

theorem beneath_put (S : Sh) (i : Int) (v : Int) : (S.put i v).beneath = S.beneath := by
  unfold Sh.put
  split <;> rfl

/-- A bit set; every other bit as it was. -/
theorem bit_setB {S : Sh} (b : Nat) (hb : b < 256) (u : Bool) (c : Nat) (hc : c < 256) : bitB (setB S b u) c = if c = b ∧ b ≠ 0 then u else bitB S c := by
  unfold setB
  by_cases h0 : b = 0
  · rw [if_pos (.inl h0), if_neg (by omega)]
  · by_cases hu : bitB S b = u
    · rw [if_pos (.inr hu)]
      by_cases hcb : c = b
      · subst hcb
        rw [if_pos ⟨rfl, h0⟩, hu]
      · rw [if_neg (by omega)]
    · rw [if_neg (by simp [h0, hu])]
      unfold bitB at hu ⊢
      rw [now_put _ _ _ (by omega)]
      by_cases hw : 816 + c / 64 = 816 + b / 64
      · rw [if_pos hw, Int.toNat_natCast]
        unfold flipW
        rw [Nat.testBit_xor, Nat.testBit_two_pow]
        by_cases hcb : c = b
        · subst hcb
          rw [if_pos ⟨rfl, h0⟩]
          simp
          cases u <;> simp_all
        · rw [if_neg (by omega), hw]
          have : b % 64 ≠ c % 64 := by omega
          simp [this]
      · rw [if_neg hw, if_neg (by rintro ⟨rfl, _⟩; exact hw rfl)]

/-- Words that are no bits stay. -/
theorem now_setB (S : Sh) (b : Nat) (hb : b < 256) (u : Bool) (k : Nat) (h : k < 816 ∨ 820 ≤ k) : (setB S b u).now k = S.now k := by
  unfold setB
  split
  · rfl
  · rw [now_put _ _ _ (by omega), if_neg (by omega)]

/-- How many blocks from 1 on, below a number, aren't used. -/
def freeTo (S : Sh) : Nat → Nat
  | 0 => 0
  | k + 1 => freeTo S k + if 1 ≤ k ∧ bitB S k = false then 1 else 0

def freeN (S : Sh) : Nat := freeTo S 256

theorem freeTo_le (S : Sh) (k : Nat) : freeTo S k ≤ k := by
  induction k with
  | zero => simp [freeTo]
  | succ k ih => simp only [freeTo]; split <;> omega

/-- Noughts in a block's words. -/
def zeroAt (S : Sh) (i : Nat) : Sh := if S.now i = 0 then S else S.put (i : Int) 0
def cleanTo (S : Sh) (b : Nat) : Nat → Sh
  | 0 => S
  | k + 1 => zeroAt (cleanTo S b k) (1080 + b * 8 + k)
def cleanB (S : Sh) (b : Nat) : Sh := cleanTo S b 8

theorem zeroAt_ok {S : Sh} (h : S.Ok) (i : Nat) : (zeroAt S i).Ok := by
  unfold zeroAt
  split
  · exact h
  · exact h.put _ _ (by omega) (by omega)

theorem cleanTo_ok {S : Sh} (h : S.Ok) (b k : Nat) : (cleanTo S b k).Ok := by
  induction k with
  | zero => exact h
  | succ k ih => exact zeroAt_ok ih _

theorem zeroAt_was (S : Sh) (i : Nat) : (zeroAt S i).was.length ≤ S.was.length + 1 := by
  unfold zeroAt
  split
  · omega
  · exact Sh.put_was_le _ _ _

theorem cleanTo_was (S : Sh) (b k : Nat) : (cleanTo S b k).was.length ≤ S.was.length + k := by
  induction k with
  | zero => simp [cleanTo]
  | succ k ih => have := zeroAt_was (cleanTo S b k) (1080 + b * 8 + k); simp only [cleanTo]; omega

theorem now_zeroAt (S : Sh) (i : Nat) (h : i < 3128) (k : Nat) : (zeroAt S i).now k = if k = i then 0 else S.now k := by
  unfold zeroAt
  split
  · rename_i h0
    split
    · rename_i e; rw [e, h0]
    · rfl
  · rw [now_put _ _ _ h]

theorem now_cleanTo (S : Sh) (b : Nat) (hb : b < 256) (j : Nat) (hj : j ≤ 8) (k : Nat) : (cleanTo S b j).now k = if 1080 + b * 8 ≤ k ∧ k < 1080 + b * 8 + j then 0 else S.now k := by
  induction j with
  | zero => simp only [cleanTo]; rw [if_neg (by omega)]
  | succ j ih =>
    simp only [cleanTo]
    rw [now_zeroAt _ _ (by omega), ih (by omega)]
    by_cases e : k = 1080 + b * 8 + j
    · rw [if_pos e, if_pos (by omega)]
    · rw [if_neg e]
      by_cases h : 1080 + b * 8 ≤ k ∧ k < 1080 + b * 8 + j
      · rw [if_pos h, if_pos (by omega)]
      · rw [if_neg h, if_neg (by omega)]

theorem bit_cleanB (S : Sh) (b : Nat) (hb : b < 256) (c : Nat) (hc : c < 256) : bitB (cleanB S b) c = bitB S c := by
  unfold bitB cleanB
  rw [now_cleanTo S b hb 8 (Nat.le_refl _), if_neg (by omega)]

/-- How many of so many blocks from a block on aren't used. -/
def freeFrom (S : Sh) : Nat → Nat → Nat
  | _, 0 => 0
  | b, f + 1 => (if bitB S b = false then 1 else 0) + freeFrom S (b + 1) f

theorem freeTo_from (S : Sh) (f : Nat) : ∀ b, 1 ≤ b → freeTo S (b + f) = freeTo S b + freeFrom S b f := by
  induction f with
  | zero => intro b _; rfl
  | succ f ih =>
    intro b hb
    rw [show b + (f + 1) = b + 1 + f by omega, ih (b + 1) (by omega)]
    simp only [freeTo, freeFrom]
    by_cases h : bitB S b = false
    · rw [if_pos ⟨hb, h⟩, if_pos h]; omega
    · rw [if_neg (by simp [h]), if_neg h]; omega

theorem freeN_from (S : Sh) : freeN S = freeFrom S 1 255 := by
  unfold freeN
  rw [show (256 : Nat) = 1 + 255 from rfl, freeTo_from S 255 1 (by omega)]
  simp [freeTo]

theorem freeFrom_congr (S T : Sh) (f : Nat) : ∀ b, (∀ c, b ≤ c → c < b + f → bitB T c = bitB S c) → freeFrom T b f = freeFrom S b f := by
  induction f with
  | zero => intro b _; rfl
  | succ f ih =>
    intro b h
    simp only [freeFrom]
    rw [h b (by omega) (by omega), ih (b + 1) (fun c h1 h2 => h c (by omega) (by omega))]

/-- The sheet when a block is taken. -/
def takeB (S : Sh) (b : Nat) : Sh := cleanB (setB S b true) b

theorem bit_takeB (S : Sh) (b : Nat) (hb : b < 256) (h1 : 1 ≤ b) (c : Nat) (hc : c < 256) : bitB (takeB S b) c = if c = b then true else bitB S c := by
  unfold takeB
  rw [bit_cleanB _ b hb c hc, bit_setB b hb true c hc]
  by_cases e : c = b
  · rw [if_pos ⟨e, by omega⟩, if_pos e]
  · rw [if_neg (by omega), if_neg e]

theorem takeB_ok {S : Sh} (h : S.Ok) (b : Nat) : (takeB S b).Ok := cleanTo_ok (setB_ok h b true) b 8

theorem takeB_was (S : Sh) (b : Nat) : (takeB S b).was.length ≤ S.was.length + 9 := by
  have h1 := setB_was S b true
  have h2 := cleanTo_was (setB S b true) b 8
  unfold takeB cleanB
  omega

theorem freeFrom_takeB (S : Sh) (b : Nat) (hb : b < 256) (h1 : 1 ≤ b) (f : Nat) (hf : b + 1 + f ≤ 256) : freeFrom (takeB S b) (b + 1) f = freeFrom S (b + 1) f :=
  freeFrom_congr _ _ _ _ (fun c h h2 => by rw [bit_takeB S b hb h1 c (by omega), if_neg (by omega)])

/-- The blocks that are taken, from a block on: the sheet then, and their numbers. -/
def takeFrom : Nat → Sh → Nat → Nat → Sh × List Nat
  | _, S, _, 0 => (S, [])
  | 0, S, _, _ => (S, [])
  | f + 1, S, b, n + 1 => if bitB S b = true then takeFrom f S (b + 1) (n + 1) else
      ((takeFrom f (takeB S b) (b + 1) n).1, b :: (takeFrom f (takeB S b) (b + 1) n).2)

theorem takeFrom_zero (f : Nat) (S : Sh) (b : Nat) : takeFrom f S b 0 = (S, []) := by cases f <;> rfl
theorem takeFrom_used {f : Nat} {S : Sh} {b n : Nat} (h : bitB S b = true) (hn : 0 < n) : takeFrom (f + 1) S b n = takeFrom f S (b + 1) n := by
  obtain ⟨m, rfl⟩ : ∃ m, n = m + 1 := ⟨n - 1, by omega⟩
  simp only [takeFrom]
  rw [if_pos h]
theorem takeFrom_free {f : Nat} {S : Sh} {b n : Nat} (h : bitB S b = false) (hn : 0 < n) : takeFrom (f + 1) S b n = ((takeFrom f (takeB S b) (b + 1) (n - 1)).1, b :: (takeFrom f (takeB S b) (b + 1) (n - 1)).2) := by
  obtain ⟨m, rfl⟩ : ∃ m, n = m + 1 := ⟨n - 1, by omega⟩
  simp only [takeFrom]
  rw [if_neg (by simp [h])]
  simp

/-- What is taken: as many as asked, each in range and used then, the rest as it was. -/
theorem takeFrom_law (f : Nat) : ∀ (S : Sh) (b n : Nat), 1 ≤ b → b + f ≤ 256 → n ≤ freeFrom S b f →
    (takeFrom f S b n).2.length = n ∧ (∀ x ∈ (takeFrom f S b n).2, b ≤ x ∧ x < b + f ∧ bitB S x = false) ∧
    (∀ c, c < 256 → bitB (takeFrom f S b n).1 c = (bitB S c || decide (c ∈ (takeFrom f S b n).2))) ∧
    (∀ c, 1 ≤ c → c < b → freeFrom (takeFrom f S b n).1 c (b - c) = freeFrom S c (b - c)) ∧ freeFrom (takeFrom f S b n).1 b f + n = freeFrom S b f ∧
    ((takeFrom f S b n).1).was.length ≤ S.was.length + 9 * f := by
  induction f with
  | zero =>
    intro S b n hb hf hn
    simp only [freeFrom] at hn
    obtain rfl : n = 0 := by omega
    rw [takeFrom_zero]
    simp [freeFrom]
  | succ f ih =>
    intro S b n hb hf hn
    by_cases h0 : n = 0
    · subst h0
      rw [takeFrom_zero]
      simp
    · cases hbit : bitB S b with
      | true =>
        rw [takeFrom_used hbit (by omega)]
        simp only [freeFrom, hbit] at hn
        obtain ⟨h1, h2, h3, h4, h5, h6⟩ := ih S (b + 1) n (by omega) (by omega) (by simpa using hn)
        refine ⟨h1, fun x hx => ?_, h3, ?_, ?_, by omega⟩
        · have := h2 x hx; exact ⟨by omega, by omega, this.2.2⟩
        · intro c hc1 hc
          refine freeFrom_congr _ _ _ _ (fun d hd1 hd2 => ?_)
          rw [h3 d (by omega)]
          have : d ∉ (takeFrom f S (b + 1) n).2 := fun hm => by have := (h2 d hm).1; omega
          simp [this]
        · simp only [freeFrom]
          have : b ∉ (takeFrom f S (b + 1) n).2 := fun hm => by have := (h2 b hm).1; omega
          rw [h3 b (by omega)]
          simp [this, hbit]
          exact h5
      | false =>
        rw [takeFrom_free hbit (by omega)]
        simp only [freeFrom, hbit, if_true] at hn
        obtain ⟨h1, h2, h3, h4, h5, h6⟩ := ih (takeB S b) (b + 1) (n - 1) (by omega) (by omega) (by rw [freeFrom_takeB S b (by omega) hb f (by omega)]; omega)
        have hw := takeB_was S b
        have hbits : ∀ c, c < 256 → bitB (takeFrom f (takeB S b) (b + 1) (n - 1)).1 c = (bitB S c || decide (c ∈ b :: (takeFrom f (takeB S b) (b + 1) (n - 1)).2)) := fun c hc => by
          rw [h3 c hc, bit_takeB S b (by omega) hb c hc]
          by_cases e : c = b
          · subst e; simp
          · simp [e]
        refine ⟨by simp [h1]; omega, fun x hx => ?_, hbits, ?_, ?_, by simp only; omega⟩
        · rcases List.mem_cons.1 hx with rfl | hx
          · exact ⟨by omega, by omega, hbit⟩
          · have := h2 x hx
            have hb2 := this.2.2
            rw [bit_takeB S b (by omega) hb x (by omega), if_neg (by omega)] at hb2
            exact ⟨by omega, by omega, hb2⟩
        · intro c hc1 hc
          refine freeFrom_congr _ _ _ _ (fun d hd1 hd2 => ?_)
          simp only
          rw [hbits d (by omega)]
          have : d ∉ b :: (takeFrom f (takeB S b) (b + 1) (n - 1)).2 := fun hm => by
            rcases List.mem_cons.1 hm with rfl | hm
            · omega
            · have := (h2 d hm).1; omega
          simp [this]
        · simp only [freeFrom]
          rw [hbits b (by omega)]
          rw [freeFrom_takeB S b (by omega) hb f (by omega)] at h5
          simp [hbit]
          omega
end Go.Proofs.Ytfpnmphmngdkdaa
