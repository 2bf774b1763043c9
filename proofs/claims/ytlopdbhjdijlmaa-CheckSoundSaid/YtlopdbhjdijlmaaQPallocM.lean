/-
  Blocks given out: the bits of a sheet, set and counted: plain functions. No program here.
  What the functions of package palloc answer: contracts, over a sheet that is known by its words. No condition but the bounds that are typed.
  
-/
import Derived.Test.YtlopdbhjdijlmaaQTxM
import Derived.Maps.AppendAt

namespace Go.Proofs.Ytlopdbhjdijlmaa
set_option linter.unusedVariables false

/-- Is a block's bit set? -/
def bitB (S : Sh) (b : Nat) : Bool := (S.now (816 + b / 64)).toNat.testBit (b % 64)

/-- The word with a bit turned. -/
def flipW (S : Sh) (b : Nat) : Nat := (S.now (816 + b / 64)).toNat ^^^ 2 ^ (b % 64)

def setB (S : Sh) (b : Nat) (u : Bool) : Sh := if b = 0 ∨ bitB S b = u then S else S.put ((816 + b / 64 : Nat) : Int) (flipW S b : Nat)

theorem flipW_lt {S : Sh} (h : S.Ok) (b : Nat) : flipW S b < 18446744073709551616 := by
  unfold flipW
  have h1 := h.now (816 + b / 64)
  have h2 : (S.now (816 + b / 64)).toNat < 2 ^ 64 := by omega
  have h3 : 2 ^ (b % 64) < 2 ^ 64 := Nat.pow_lt_pow_right (by decide) (Nat.mod_lt _ (by decide))
  exact Nat.xor_lt_two_pow h2 h3

theorem setB_ok {S : Sh} (h : S.Ok) (b : Nat) (u : Bool) : (setB S b u).Ok := by
  unfold setB
  split
  · exact h
  · exact h.put _ _ (by omega) (by have := flipW_lt h b; omega)

theorem setB_was (S : Sh) (b : Nat) (u : Bool) : (setB S b u).was.length ≤ S.was.length + 1 := by
  unfold setB
  split
  · omega
  · exact Sh.put_was_le _ _ _

theorem now_put (S : Sh) (i : Nat) (v : Int) (h : i < 3128) (k : Nat) : (S.put (i : Int) v).now k = if k = i then v else S.now k := by
  unfold Sh.put
  rw [if_pos (by omega)]
  simp only [upd, Int.toNat_natCast]

theorem beneath_put (S : Sh) (i : Int) (v : Int) : (S.put i v).beneath = S.beneath := by
  unfold Sh.put
  split <;> rfl

/-- A bit set; every other bit as it was. -/
theorem bit_setB {S : Sh} (b : Nat) (hb : b < 256) (u : Bool) (c : Nat) (hc : c < 256) : bitB (setB S b u) c = if c = b ∧ b ≠ 0 then u else bitB S c := by
  unfold setB
  by_cases h0 : b = 0
  · rw [if_pos (.inl h0), if_neg (by omega)]
  · by_cases hu : bitB S b = u
    · rw [if_pos (.inr hu)]
      by_cases hcb : c = b
      · subst hcb
        rw [if_pos ⟨rfl, h0⟩, hu]
      · rw [if_neg (by omega)]
    · rw [if_neg (by simp [h0, hu])]
      unfold bitB at hu ⊢
      rw [now_put _ _ _ (by omega)]
      by_cases hw : 816 + c / 64 = 816 + b / 64
      · rw [if_pos hw, Int.toNat_natCast]
        unfold flipW
        rw [Nat.testBit_xor, Nat.testBit_two_pow]
        by_cases hcb : c = b
        · subst hcb
          rw [if_pos ⟨rfl, h0⟩]
          simp
          cases u <;> simp_all
        · rw [if_neg (by omega), hw]
          have : b % 64 ≠ c % 64 := by omega
          simp [this]
      · rw [if_neg hw, if_neg (by rintro ⟨rfl, _⟩; exact hw rfl)]

/-- Words that are no bits stay. -/
theorem now_setB (S : Sh) (b : Nat) (hb : b < 256) (u : Bool) (k : Nat) (h : k < 816 ∨ 820 ≤ k) : (setB S b u).now k = S.now k := by
  unfold setB
  split
  · rfl
  · rw [now_put _ _ _ (by omega), if_neg (by omega)]

/-- How many blocks from 1 on, below a number, aren't used. -/
def freeTo (S : Sh) : Nat → Nat
  | 0 => 0
  | k + 1 => freeTo S k + if 1 ≤ k ∧ bitB S k = false then 1 else 0

def freeN (S : Sh) : Nat := freeTo S 256

theorem freeTo_le (S : Sh) (k : Nat) : freeTo S k ≤ k := by
  induction k with
  | zero => simp [freeTo]
  | succ k ih => simp only [freeTo]; split <;> omega

/-- Noughts in a block's words. -/
def zeroAt (S : Sh) (i : Nat) : Sh := if S.now i = 0 then S else S.put (i : Int) 0
def cleanTo (S : Sh) (b : Nat) : Nat → Sh
  | 0 => S
  | k + 1 => zeroAt (cleanTo S b k) (1080 + b * 8 + k)
def cleanB (S : Sh) (b : Nat) : Sh := cleanTo S b 8

theorem zeroAt_ok {S : Sh} (h : S.Ok) (i : Nat) : (zeroAt S i).Ok := by
  unfold zeroAt
  split
  · exact h
  · exact h.put _ _ (by omega) (by omega)

theorem cleanTo_ok {S : Sh} (h : S.Ok) (b k : Nat) : (cleanTo S b k).Ok := by
  induction k with
  | zero => exact h
  | succ k ih => exact zeroAt_ok ih _

theorem zeroAt_was (S : Sh) (i : Nat) : (zeroAt S i).was.length ≤ S.was.length + 1 := by
  unfold zeroAt
  split
  · omega
  · exact Sh.put_was_le _ _ _

theorem cleanTo_was (S : Sh) (b k : Nat) : (cleanTo S b k).was.length ≤ S.was.length + k := by
  induction k with
  | zero => simp [cleanTo]
  | succ k ih => have := zeroAt_was (cleanTo S b k) (1080 + b * 8 + k); simp only [cleanTo]; omega

theorem now_zeroAt (S : Sh) (i : Nat) (h : i < 3128) (k : Nat) : (zeroAt S i).now k = if k = i then 0 else S.now k := by
  unfold zeroAt
  split
  · rename_i h0
    split
    · rename_i e; rw [e, h0]
    · rfl
  · rw [now_put _ _ _ h]

theorem now_cleanTo (S : Sh) (b : Nat) (hb : b < 256) (j : Nat) (hj : j ≤ 8) (k : Nat) : (cleanTo S b j).now k = if 1080 + b * 8 ≤ k ∧ k < 1080 + b * 8 + j then 0 else S.now k := by
  induction j with
  | zero => simp only [cleanTo]; rw [if_neg (by omega)]
  | succ j ih =>
    simp only [cleanTo]
    rw [now_zeroAt _ _ (by omega), ih (by omega)]
    by_cases e : k = 1080 + b * 8 + j
    · rw [if_pos e, if_pos (by omega)]
    · rw [if_neg e]
      by_cases h : 1080 + b * 8 ≤ k ∧ k < 1080 + b * 8 + j
      · rw [if_pos h, if_pos (by omega)]
      · rw [if_neg h, if_neg (by omega)]

theorem bit_cleanB (S : Sh) (b : Nat) (hb : b < 256) (c : Nat) (hc : c < 256) : bitB (cleanB S b) c = bitB S c := by
  unfold bitB cleanB
  rw [now_cleanTo S b hb 8 (Nat.le_refl _), if_neg (by omega)]

/-- How many of so many blocks from a block on aren't used. -/
def freeFrom (S : Sh) : Nat → Nat → Nat
  | _, 0 => 0
  | b, f + 1 => (if bitB S b = false then 1 else 0) + freeFrom S (b + 1) f

theorem freeTo_from (S : Sh) (f : Nat) : ∀ b, 1 ≤ b → freeTo S (b + f) = freeTo S b + freeFrom S b f := by
  induction f with
  | zero => intro b _; rfl
  | succ f ih =>
    intro b hb
    rw [show b + (f + 1) = b + 1 + f by omega, ih (b + 1) (by omega)]
    simp only [freeTo, freeFrom]
    by_cases h : bitB S b = false
    · rw [if_pos ⟨hb, h⟩, if_pos h]; omega
    · rw [if_neg (by simp [h]), if_neg h]; omega

theorem freeN_from (S : Sh) : freeN S = freeFrom S 1 255 := by
  unfold freeN
  rw [show (256 : Nat) = 1 + 255 from rfl, freeTo_from S 255 1 (by omega)]
  simp [freeTo]

theorem freeFrom_congr (S T : Sh) (f : Nat) : ∀ b, (∀ c, b ≤ c → c < b + f → bitB T c = bitB S c) → freeFrom T b f = freeFrom S b f := by
  induction f with
  | zero => intro b _; rfl
  | succ f ih =>
    intro b h
    simp only [freeFrom]
    rw [h b (by omega) (by omega), ih (b + 1) (fun c h1 h2 => h c (by omega) (by omega))]

/-- The sheet when a block is taken. -/
def takeB (S : Sh) (b : Nat) : Sh := cleanB (setB S b true) b

theorem bit_takeB (S : Sh) (b : Nat) (hb : b < 256) (h1 : 1 ≤ b) (c : Nat) (hc : c < 256) : bitB (takeB S b) c = if c = b then true else bitB S c := by
  unfold takeB
  rw [bit_cleanB _ b hb c hc, bit_setB b hb true c hc]
  by_cases e : c = b
  · rw [if_pos ⟨e, by omega⟩, if_pos e]
  · rw [if_neg (by omega), if_neg e]

theorem takeB_ok {S : Sh} (h : S.Ok) (b : Nat) : (takeB S b).Ok := cleanTo_ok (setB_ok h b true) b 8

theorem takeB_was (S : Sh) (b : Nat) : (takeB S b).was.length ≤ S.was.length + 9 := by
  have h1 := setB_was S b true
  have h2 := cleanTo_was (setB S b true) b 8
  unfold takeB cleanB
  omega

theorem freeFrom_takeB (S : Sh) (b : Nat) (hb : b < 256) (h1 : 1 ≤ b) (f : Nat) (hf : b + 1 + f ≤ 256) : freeFrom (takeB S b) (b + 1) f = freeFrom S (b + 1) f :=
  freeFrom_congr _ _ _ _ (fun c h h2 => by rw [bit_takeB S b hb h1 c (by omega), if_neg (by omega)])

/-- The blocks that are taken, from a block on: the sheet then, and their numbers. -/
def takeFrom : Nat → Sh → Nat → Nat → Sh × List Nat
  | _, S, _, 0 => (S, [])
  | 0, S, _, _ => (S, [])
  | f + 1, S, b, n + 1 => if bitB S b = true then takeFrom f S (b + 1) (n + 1) else
      ((takeFrom f (takeB S b) (b + 1) n).1, b :: (takeFrom f (takeB S b) (b + 1) n).2)

theorem takeFrom_zero (f : Nat) (S : Sh) (b : Nat) : takeFrom f S b 0 = (S, []) := by cases f <;> rfl
theorem takeFrom_used {f : Nat} {S : Sh} {b n : Nat} (h : bitB S b = true) (hn : 0 < n) : takeFrom (f + 1) S b n = takeFrom f S (b + 1) n := by
  obtain ⟨m, rfl⟩ : ∃ m, n = m + 1 := ⟨n - 1, by omega⟩
  simp only [takeFrom]
  rw [if_pos h]
theorem takeFrom_free {f : Nat} {S : Sh} {b n : Nat} (h : bitB S b = false) (hn : 0 < n) : takeFrom (f + 1) S b n = ((takeFrom f (takeB S b) (b + 1) (n - 1)).1, b :: (takeFrom f (takeB S b) (b + 1) (n - 1)).2) := by
  obtain ⟨m, rfl⟩ : ∃ m, n = m + 1 := ⟨n - 1, by omega⟩
  simp only [takeFrom]
  rw [if_neg (by simp [h])]
  simp

/-- What is taken: as many as asked, each in range and used then, the rest as it was. -/
theorem takeFrom_law (f : Nat) : ∀ (S : Sh) (b n : Nat), 1 ≤ b → b + f ≤ 256 → n ≤ freeFrom S b f →
    (takeFrom f S b n).2.length = n ∧ (∀ x ∈ (takeFrom f S b n).2, b ≤ x ∧ x < b + f ∧ bitB S x = false) ∧
    (∀ c, c < 256 → bitB (takeFrom f S b n).1 c = (bitB S c || decide (c ∈ (takeFrom f S b n).2))) ∧
    (∀ c, 1 ≤ c → c < b → freeFrom (takeFrom f S b n).1 c (b - c) = freeFrom S c (b - c)) ∧ freeFrom (takeFrom f S b n).1 b f + n = freeFrom S b f ∧
    ((takeFrom f S b n).1).was.length ≤ S.was.length + 9 * f := by
  induction f with
  | zero =>
    intro S b n hb hf hn
    simp only [freeFrom] at hn
    obtain rfl : n = 0 := by omega
    rw [takeFrom_zero]
    simp [freeFrom]
  | succ f ih =>
    intro S b n hb hf hn
    by_cases h0 : n = 0
    · subst h0
      rw [takeFrom_zero]
      simp
    · cases hbit : bitB S b with
      | true =>
        rw [takeFrom_used hbit (by omega)]
        simp only [freeFrom, hbit] at hn
        obtain ⟨h1, h2, h3, h4, h5, h6⟩ := ih S (b + 1) n (by omega) (by omega) (by simpa using hn)
        refine ⟨h1, fun x hx => ?_, h3, ?_, ?_, by omega⟩
        · have := h2 x hx; exact ⟨by omega, by omega, this.2.2⟩
        · intro c hc1 hc
          refine freeFrom_congr _ _ _ _ (fun d hd1 hd2 => ?_)
          rw [h3 d (by omega)]
          have : d ∉ (takeFrom f S (b + 1) n).2 := fun hm => by have := (h2 d hm).1; omega
          simp [this]
        · simp only [freeFrom]
          have : b ∉ (takeFrom f S (b + 1) n).2 := fun hm => by have := (h2 b hm).1; omega
          rw [h3 b (by omega)]
          simp [this, hbit]
          exact h5
      | false =>
        rw [takeFrom_free hbit (by omega)]
        simp only [freeFrom, hbit, if_true] at hn
        obtain ⟨h1, h2, h3, h4, h5, h6⟩ := ih (takeB S b) (b + 1) (n - 1) (by omega) (by omega) (by rw [freeFrom_takeB S b (by omega) hb f (by omega)]; omega)
        have hw := takeB_was S b
        have hbits : ∀ c, c < 256 → bitB (takeFrom f (takeB S b) (b + 1) (n - 1)).1 c = (bitB S c || decide (c ∈ b :: (takeFrom f (takeB S b) (b + 1) (n - 1)).2)) := fun c hc => by
          rw [h3 c hc, bit_takeB S b (by omega) hb c hc]
          by_cases e : c = b
          · subst e; simp
          · simp [e]
        refine ⟨by simp [h1]; omega, fun x hx => ?_, hbits, ?_, ?_, by simp only; omega⟩
        · rcases List.mem_cons.1 hx with rfl | hx
          · exact ⟨by omega, by omega, hbit⟩
          · have := h2 x hx
            have hb2 := this.2.2
            rw [bit_takeB S b (by omega) hb x (by omega), if_neg (by omega)] at hb2
            exact ⟨by omega, by omega, hb2⟩
        · intro c hc1 hc
          refine freeFrom_congr _ _ _ _ (fun d hd1 hd2 => ?_)
          simp only
          rw [hbits d (by omega)]
          have : d ∉ b :: (takeFrom f (takeB S b) (b + 1) (n - 1)).2 := fun hm => by
            rcases List.mem_cons.1 hm with rfl | hm
            · omega
            · have := (h2 d hm).1; omega
          simp [this]
        · simp only [freeFrom]
          rw [hbits b (by omega)]
          rw [freeFrom_takeB S b (by omega) hb f (by omega)] at h5
          simp [hbit]
          omega
end Go.Proofs.Ytlopdbhjdijlmaa

namespace Go.Proofs.Ytlopdbhjdijlmaa
open Go.ChangeShapes Go.WideShapes Go.ChangeAt Go.RowKit
set_option linter.unusedSimpArgs false
set_option linter.unusedVariables false

theorem Mod.undrew {D : Nat → Prop} {w w' : World} (h : Mod D w.drew w') : Mod D w w' := ⟨h.os, h.tape, h.output, h.size, h.block⟩

theorem grow_grow {D : Nat → Prop} {a b c : World} (h1 : a.heap.size ≤ b.heap.size) (h2 : b.heap.size ≤ c.heap.size) : grow (grow D a b) b c = grow D a c := by
  funext k
  unfold grow
  apply propext
  constructor
  · rintro ((h | h) | h)
    · exact .inl h
    · exact .inr (by omega)
    · exact .inr (by omega)
  · rintro (h | h)
    · exact .inl (.inl h)
    · by_cases hb : k < b.heap.size
      · exact .inl (.inr (by omega))
      · exact .inr (by omega)

theorem sheet_same {w : World} {p : Nat} {D : Nat → Prop} {S : Sh} (h : SheetAt w p D S) : SheetAt w p (grow D w w) S :=
  h.mono (fun b hb => .inl hb) (fun b hb => h.lt b (grow_refl.1 hb))

theorem bit_form (x k : Nat) (hx : x < 18446744073709551616) : (bits .and .u64 ((x : Int) / 2 ^ k) 1 == 1) = x.testBit k := by
  have e : ((x : Int) / 2 ^ k) = ((x / 2 ^ k : Nat) : Int) := by simp
  have hl : x / 2 ^ k < 18446744073709551616 := Nat.lt_of_le_of_lt (Nat.div_le_self _ _) hx
  have h1 : bits .and .u64 ((x / 2 ^ k : Nat) : Int) ((1 : Nat) : Int) = ((x / 2 ^ k &&& 1 : Nat) : Int) := u64_and_nat _ 1 hl (by omega)
  rw [e, show (1 : Int) = ((1 : Nat) : Int) from rfl, h1, nat_mask1, Nat.testBit_eq_decide_div_mod_eq]
  rw [Bool.eq_iff_iff]
  simp
  omega

theorem pin_any (i : Int) (w : World) : Calls Try.prog 85 #[.int .i64 i] w fun e w' => e = .returned (.bool (decide (0 ≤ i ∧ i < 256))) ∧ w = w' := by
  by_cases h : 0 ≤ i
  · go_enter Try.func85, Try.ntmps85
    go_wp2
    go_ret
    simp [h]
  · go_enter Try.func85, Try.ntmps85
    go_wp2
    go_ret
    simp
    omega

theorem used_out {w : World} {p : Nat} (b : Int) (hb : ¬ (0 ≤ b ∧ b < 256)) :
    Calls Try.prog 52 #[.pointer (some ⟨p, 0, none⟩), .int .i64 b] w fun e w' => e = .returned (.bool true) ∧ w = w' := by
  have HB : Hid (decide (0 ≤ b ∧ b < 256) = false) := decide_eq_false hb
  clear hb
  go_enter Try.func52, Try.ntmps52
  go_wp2_with (go_at_call 85; refine (pin_any _ _).mono ?_; rintro e w' ⟨rfl, rfl⟩; rw [HB.out])
  go_ret
  exact ⟨rfl, rfl⟩

theorem used_any {w : World} {p : Nat} {D : Nat → Prop} {S : Sh} (h : SheetAt w p D S) (b : Nat) (hb : b < 256) :
    Calls Try.prog 52 #[.pointer (some ⟨p, 0, none⟩), .int .i64 b] w fun e w' => e = .returned (.bool (bitB S b)) ∧ w = w' := by
  have HS := Lib.hid h
  have HB : Hid (decide (0 ≤ (b : Int) ∧ (b : Int) < 256) = true) := decide_eq_true (by omega)
  have hok := h.ok.now (816 + b / 64)
  have HG : Hid (S.get (816 + (b : Int) / 64) = ((S.now (816 + b / 64)).toNat : Nat)) := by
    have e : (816 + (b : Int) / 64) = ((816 + b / 64 : Nat) : Int) := by omega
    unfold Hid Sh.get
    rw [e, if_pos (by omega)]
    simp only [Int.toNat_natCast]
    omega
  have HBIT : Hid (bitB S b = (S.now (816 + b / 64)).toNat.testBit (b % 64)) := rfl
  have hlt : (S.now (816 + b / 64)).toNat < 18446744073709551616 := by omega
  generalize (S.now (816 + b / 64)).toNat = x at HG HBIT hlt
  have HLT := Lib.hid hlt
  clear h hok hlt
  go_enter Try.func52, Try.ntmps52
  go_wp2_with (first | (go_at_call 85; refine (pin_any _ _).mono ?_; rintro e w' ⟨rfl, rfl⟩; rw [HB.out]) | (go_at_call 37; refine (sheet_get HS.out _).mono ?_; rintro e w' ⟨rfl, rfl⟩; rw [HG.out]))
  go_ret
  rw [HBIT.out, ← bit_form x (b % 64) HLT.out]
  exact ⟨rfl, rfl⟩

theorem flip_form (x k : Nat) (hx : x < 18446744073709551616) (hk : k < 64) : bits .xor .u64 (x : Int) (IntKind.u64.wrap (2 ^ k)) = ((x ^^^ 2 ^ k : Nat) : Int) := by
  have hp : 2 ^ k < 18446744073709551616 := Nat.lt_of_lt_of_le (Nat.pow_lt_pow_right (by decide) hk) (by decide)
  have e : (2 : Int) ^ k = ((2 ^ k : Nat) : Int) := by simp
  have hx2 := u64_xor_nat x (2 ^ k) hx hp
  rw [e]
  generalize 2 ^ k = y at hp hx2 ⊢
  rw [IntKind.wrap_u64, Int.emod_eq_of_lt (by omega) (by omega), hx2]

theorem set_any {w : World} {p : Nat} {D : Nat → Prop} {S : Sh} (h : SheetAt w p D S) (hlen : S.was.length < 1099511627776) (b : Nat) (hb : b < 256) (u : Bool) :
    Calls Try.prog 67 #[.pointer (some ⟨p, 0, none⟩), .int .i64 b, .bool u] w fun e w' => e = .returned (.tuple #[]) ∧ SheetAt w' p (grow D w w') (setB S b u) ∧ Mod D w w' := by
  have HS := Lib.hid h
  have HB : Hid (decide (0 ≤ (b : Int) ∧ (b : Int) < 256) = true) := decide_eq_true (by omega)
  have hsame : Hid (SheetAt w p (grow D w w) S ∧ Mod D w w) := ⟨h.mono (fun b hb => .inl hb) (fun b hb => h.lt b (grow_refl.1 hb)), Mod.refl _ _⟩
  by_cases hc : b = 0 ∨ bitB S b = u
  · have HST : Hid (setB S b u = S) := by unfold Hid setB; rw [if_pos hc]
    by_cases h0 : b = 0
    · have hb0 : ((b : Int) == 0) = true := by rw [h0]; rfl
      clear h hc h0
      go_enter Try.func67, Try.ntmps67
      go_wp2_with (go_at_call 85; refine (pin_any _ _).mono ?_; rintro e w' ⟨rfl, rfl⟩; rw [HB.out])
      refine bodyPost_ret (results_none rfl _ _ _) rfl ?_
      rw [HST.out]
      exact ⟨rfl, hsame.out⟩
    · have hu : bitB S b = u := by rcases hc with hc | hc; exact absurd hc h0; exact hc
      have HUS := Lib.hid (used_any h b hb)
      rw [hu] at HUS
      have hb0 : ((b : Int) == 0) = false := beq_eq_false_iff_ne.2 (by omega)
      clear h hc hu h0
      cases u
      all_goals
        go_enter Try.func67, Try.ntmps67
        go_wp2_with (first | (go_at_call 85; refine (pin_any _ _).mono ?_; rintro e w' ⟨rfl, rfl⟩; rw [HB.out]) | (go_at_call 52; refine HUS.out.mono ?_; rintro e w' ⟨rfl, rfl⟩))
        refine bodyPost_ret (results_none rfl _ _ _) rfl ?_
        rw [HST.out]
        exact ⟨rfl, hsame.out⟩
  · have h0 : b ≠ 0 := fun e => hc (.inl e)
    have hu : bitB S b = !u := by
      have : bitB S b ≠ u := fun e => hc (.inr e)
      cases hbb : bitB S b <;> cases u <;> simp_all
    have HST : Hid (setB S b u = S.put (816 + (b : Int) / 64) (flipW S b : Nat)) := by
      unfold Hid setB
      rw [if_neg hc]
      congr 1
    have HUS := Lib.hid (used_any h b hb)
    rw [hu] at HUS
    have hb0 : ((b : Int) == 0) = false := beq_eq_false_iff_ne.2 (by omega)
    have hok := h.ok.now (816 + b / 64)
    have HG : Hid (S.get (816 + (b : Int) / 64) = ((S.now (816 + b / 64)).toNat : Nat)) := by
      have e : (816 + (b : Int) / 64) = ((816 + b / 64 : Nat) : Int) := by omega
      unfold Hid Sh.get
      rw [e, if_pos (by omega)]
      simp only [Int.toNat_natCast]
      omega
    have hfl : flipW S b = (S.now (816 + b / 64)).toNat ^^^ 2 ^ (b % 64) := rfl
    have hfw := flipW_lt h.ok b
    have hlt : (S.now (816 + b / 64)).toNat < 18446744073709551616 := by omega
    have HFF := Lib.hid (flip_form (S.now (816 + b / 64)).toNat (b % 64) hlt (Nat.mod_lt _ (by decide)))
    rw [← hfl] at HFF
    generalize (S.now (816 + b / 64)).toNat = x at HG HFF hlt hfl
    generalize flipW S b = fw at HST HFF hfw hfl
    have HPUT := Lib.hid (sheet_put h.drew hlen (816 + (b : Int) / 64) fw (by omega) (by omega))
    obtain ⟨k, hk⟩ : ∃ k, k = b % 64 := ⟨_, rfl⟩
    rw [← hk] at HFF
    have htm : (b : Int).tmod 64 = (k : Int) := by rw [Int.tmod_eq_emod_of_nonneg (by omega)]; omega
    have hk64 : k < 64 := by omega
    clear h hc hu h0 hok hlt hfl hfw hk
    cases u
    all_goals
      go_enter Try.func67, Try.ntmps67
      go_wp2_with (first | (go_at_call 85; refine (pin_any _ _).mono ?_; rintro e w' ⟨rfl, rfl⟩; rw [HB.out]) | (go_at_call 52; refine HUS.out.mono ?_; rintro e w' ⟨rfl, rfl⟩))
      go_region_with (first | (go_at_call 37; refine (sheet_get HS.out.drew _).mono ?_; rintro e w' ⟨rfl, rfl⟩; rw [HG.out]) | (go_at_call 31; rw [HFF.out]; refine HPUT.out.mono ?_; rintro e w2 ⟨rfl, hS2, hm2⟩; have HS2 := Lib.hid hS2; have HM2 := Lib.hid hm2; clear hS2 hm2))
      go_wp2
      go_end0
      rw [HST.out]
      exact ⟨rfl, HS2.out, HM2.out.undrew⟩

set_option maxRecDepth 20000 in
theorem free_any {w : World} {p : Nat} {D : Nat → Prop} {S : Sh} (h : SheetAt w p D S) :
    Calls Try.prog 19 #[.pointer (some ⟨p, 0, none⟩)] w fun e w' => e = .returned (.int .i64 (freeN S : Nat)) ∧ w = w' := by
  have HS := Lib.hid h
  clear h
  have HF : Hid (freeN S = freeTo S 256) := rfl
  go_enter Try.func19, Try.ntmps19
  go_wp2
  go_loopg [3, 4] 255 (fun g n b wr => ∃ k : Nat, k + g = 256 ∧ 1 ≤ k ∧ b = .int .i64 k ∧ n = .int .i64 (freeTo S k : Nat) ∧ w = wr)
  case atStart => exact ⟨1, by omega, by omega, rfl, rfl, rfl⟩
  case round =>
    obtain ⟨k, hk, hk1, rfl, rfl, rfl⟩ := hrel
    have hle := freeTo_le S k
    by_cases hlt : k < 256
    · have HUS := Lib.hid (used_any HS.out k hlt)
      have HN : Hid (freeTo S (k + 1) = freeTo S k + if 1 ≤ k ∧ bitB S k = false then 1 else 0) := rfl
      generalize freeTo S k = y at hle HN
      cases hb : bitB S k with
      | true =>
        rw [hb] at HUS HN
        clear hb
        go_wp2_with (go_at_call 52; refine HUS.out.mono ?_; rintro e w' ⟨rfl, rfl⟩)
        go_roundg (gk - 1)
        case measure => omega
        case rel => exact ⟨k + 1, by omega, by omega, by go_num, by rw [HN.out]; simp, rfl⟩
      | false =>
        rw [hb] at HUS HN
        clear hb
        go_wp2_with (go_at_call 52; refine HUS.out.mono ?_; rintro e w' ⟨rfl, rfl⟩)
        go_roundg (gk - 1)
        case measure => omega
        case rel => exact ⟨k + 1, by omega, by omega, by go_num, by rw [HN.out]; simp [hk1], rfl⟩
    · obtain rfl : k = 256 := by omega
      go_wp2
      go_ret
      rw [HF.out]
      exact ⟨rfl, rfl⟩

theorem get_nat {S : Sh} (i : Nat) (h : i < 3128) : S.get (i : Int) = S.now i := by
  unfold Sh.get
  rw [if_pos (by omega)]
  rfl

set_option maxRecDepth 20000 in
theorem clean_any {w : World} {p : Nat} {D : Nat → Prop} {S : Sh} (h : SheetAt w p D S) (hlen : S.was.length + 8 < 1099511627776) (b : Nat) (hb : b < 256) :
    Calls Try.prog 111 #[.pointer (some ⟨p, 0, none⟩), .int .i64 b] w fun e w' => e = .returned (.tuple #[]) ∧ SheetAt w' p (grow D w w') (cleanB S b) ∧ Mod D w w' := by
  have HS := Lib.hid (sheet_same h)
  clear h
  have HB : Hid ((if (b : Int) < 0 ∨ 256 ≤ (b : Int) then (-1 : Int) else 1080 + (b : Int) * 8) = 1080 + (b : Int) * 8) := if_neg (by omega)
  go_enter Try.func111, Try.ntmps111
  go_wp2
  go_loopg [6] 8 (fun g i wr => ∃ k : Nat, k + g = 8 ∧ i = .int .i64 k ∧ Hid (SheetAt wr p (grow D w wr) (cleanTo S b k)) ∧ Hid (Mod D w wr))
  case atStart => exact ⟨0, by omega, rfl, HS.out, Mod.refl _ _⟩
  case round =>
    obtain ⟨k, hk, rfl, HSR, HMR⟩ := hrel
    by_cases hlt : k < 8
    · have hwas := cleanTo_was S b k
      have hidx : (1080 + (b : Int) * 8 + (k : Int)) = ((1080 + b * 8 + k : Nat) : Int) := by omega
      have HN : Hid (cleanTo S b (k + 1) = zeroAt (cleanTo S b k) (1080 + b * 8 + k)) := rfl
      generalize cleanTo S b k = T at HSR hwas HN
      have hg : T.get (1080 + (b : Int) * 8 + (k : Int)) = T.now (1080 + b * 8 + k) := by rw [hidx]; exact get_nat _ (by omega)
      have HG := Lib.hid hg
      have HPUT := Lib.hid (sheet_put HSR.out (by omega) (1080 + (b : Int) * 8 + (k : Int)) 0 (by omega) (by omega))
      by_cases h0 : T.now (1080 + b * 8 + k) = 0
      · have HZ : Hid (zeroAt T (1080 + b * 8 + k) = T) := if_pos h0
        have HH0 := Lib.hid h0
        clear h0 hg hidx
        go_wp2_with (first | (go_at_call 105; refine (block_any _ _).mono ?_; rintro e w' ⟨rfl, rfl⟩; rw [HB.out]) | (go_at_call 37; refine (sheet_get HSR.out _).mono ?_; rintro e w' ⟨rfl, rfl⟩; rw [HG.out, HH0.out]))
        go_roundg (gk - 1)
        case measure => omega
        case rel => exact ⟨k + 1, by omega, by go_num, by rw [HN.out, HZ.out]; exact HSR, HMR⟩
      · have HZ : Hid (zeroAt T (1080 + b * 8 + k) = T.put (1080 + (b : Int) * 8 + (k : Int)) 0) := by unfold Hid zeroAt; rw [if_neg h0, hidx]
        have hne : (T.now (1080 + b * 8 + k) != 0) = true := by simpa using h0
        clear h0 hg hidx
        go_wp2_with (first | (go_at_call 105; refine (block_any _ _).mono ?_; rintro e w' ⟨rfl, rfl⟩; rw [HB.out]) | (go_at_call 37; refine (sheet_get HSR.out _).mono ?_; rintro e w' ⟨rfl, rfl⟩; rw [HG.out]) | (go_at_call 31; refine HPUT.out.mono ?_; rintro e w2 ⟨rfl, hS2, hm2⟩; have HS2 := Lib.hid hS2; have HM2 := Lib.hid hm2; clear hS2 hm2))
        go_roundg (gk - 1)
        case measure => omega
        case rel =>
          have e := grow_grow (D := D) HMR.out.size HM2.out.size
          exact ⟨k + 1, by omega, by go_num, by rw [HN.out, HZ.out, ← e]; exact HS2, HMR.out.trans HM2.out⟩
    · obtain rfl : k = 8 := by omega
      go_wp2
      go_end0
      exact ⟨rfl, HSR.out, HMR.out⟩
end Go.Proofs.Ytlopdbhjdijlmaa

namespace Go.Proofs.Ytlopdbhjdijlmaa
open Go.ChangeShapes Go.WideShapes Go.ChangeAt Go.RowKit
set_option linter.unusedSimpArgs false
set_option linter.unusedVariables false

theorem take_neg {w : World} {p : Nat} (n : Int) (hn : n < 0) :
    Calls Try.prog 89 #[.pointer (some ⟨p, 0, none⟩), .int .i64 n] w fun e w' => e = .returned (.tuple #[.slice none 0 0, .int .i64 1]) ∧ w = w' := by
  go_enter Try.func89, Try.ntmps89
  go_wp2
  go_ret2
  exact ⟨rfl, rfl⟩

theorem take_no {w : World} {p : Nat} {D : Nat → Prop} {S : Sh} (h : SheetAt w p D S) (n : Int) (hn : freeN S < n) :
    Calls Try.prog 89 #[.pointer (some ⟨p, 0, none⟩), .int .i64 n] w fun e w' => e = .returned (.tuple #[.slice none 0 0, .int .i64 7]) ∧ w = w' := by
  have HF := Lib.hid (free_any h)
  have h0 : 0 ≤ n := by omega
  generalize freeN S = y at hn HF
  clear h
  go_enter Try.func89, Try.ntmps89
  go_wp2_with (go_at_call 19; refine HF.out.mono ?_; rintro e w' ⟨rfl, rfl⟩)
  go_ret2
  exact ⟨rfl, rfl⟩

def nums (l : List Nat) : List Value := l.map fun (b : Nat) => .int .i64 (b : Int)

theorem nums_len (l : List Nat) : (nums l).length = l.length := by simp [nums]
theorem nums_snoc (l : List Nat) (b : Nat) : nums (l ++ [b]) = nums l ++ [.int .i64 (b : Int)] := by simp [nums]

/-- The sheet, and a row of numbers aside. -/
def Taken (w : World) (p : Nat) (D : Nat → Prop) (wr : World) (T : Sh) (v : Value) (xs : List Nat) : Prop :=
  ∃ Dk, SheetAt wr p Dk T ∧ wr.ownsRow w.heap.size 3 1 v xs.length (nums xs) ∧ (∀ g, v.ownBlock = some g → ¬ Dk g) ∧ (∀ b, Dk b → grow D w wr b) ∧ Mod D w wr

theorem own_lt {w : World} {base : Nat} {e : TypeId} {size : Nat} {v : Value} {n : Nat} {xs : List Value} (h : w.ownsRow base e size v n xs) {g : Nat} (hg : v.ownBlock = some g) : g < w.heap.size := by
  rcases h.2 with ⟨rfl, rfl⟩ | ⟨g', cap, cur, rfl, hb, hc, _⟩
  · cases hg
  · cases hg; exact lt_of_block hc

/-- A step that writes the sheet alone. -/
theorem Taken.step {w : World} {p : Nat} {D : Nat → Prop} {wr w2 : World} {T T2 : Sh} {v : Value} {xs : List Nat} (h : Taken w p D wr T v xs)
    (hs : ∀ Dk, SheetAt wr p Dk T → SheetAt w2 p (grow Dk wr w2) T2 ∧ Mod Dk wr w2) : Taken w p D w2 T2 v xs := by
  obtain ⟨Dk, h1, h2, h3, h4, h5⟩ := h
  obtain ⟨k1, k2⟩ := hs Dk h1
  have hD : ∀ b, grow Dk wr w2 b → grow D w w2 b := by
    intro b hb
    rcases hb with hb | hb
    · rcases h4 b hb with h | h
      · exact .inl h
      · exact .inr ⟨h.1, by have := k2.size; omega⟩
    · exact .inr ⟨by have := h5.size; omega, hb.2⟩
  refine ⟨grow Dk wr w2, k1, k2.own h2 h3, ?_, hD, h5.trans (k2.mono (fun b hb hd => h4 b hd))⟩
  intro g hg hgd
  rcases hgd with hgd | hgd
  · exact h3 g hg hgd
  · have := own_lt h2 hg; omega

theorem infoInt : (Try.prog.info? 3).map (fun i => (i.zero, i.size, i.bytes)) = some (some (.int .i64 0), 1, 8) := by kernel_rfl

theorem Taken.own {w : World} {p : Nat} {D : Nat → Prop} {wr : World} {T : Sh} {v : Value} {xs : List Nat} (h : Taken w p D wr T v xs) : wr.ownsRow w.heap.size 3 1 v xs.length (nums xs) := by
  obtain ⟨Dk, h1, h2, _⟩ := h
  exact h2

theorem Taken.size {w : World} {p : Nat} {D : Nat → Prop} {wr : World} {T : Sh} {v : Value} {xs : List Nat} (h : Taken w p D wr T v xs) : w.heap.size ≤ wr.heap.size := by
  obtain ⟨Dk, _, _, _, _, h5⟩ := h
  exact h5.size

theorem Taken.start {w : World} {p : Nat} {D : Nat → Prop} {S : Sh} (h : SheetAt w p D S) : Taken w p D w S (.slice none 0 0) [] :=
  ⟨D, h, ⟨rfl, .inl ⟨rfl, rfl⟩⟩, (by intro g hg; cases hg), (fun b hb => .inl hb), Mod.refl _ _⟩

theorem Taken.push {w : World} {p : Nat} {D : Nat → Prop} {w2 w3 : World} {T : Sh} {v v' : Value} {xs : List Nat} (h : Taken w p D w2 T v xs) {o : Obj} (k m : Nat) (hm : m = xs.length)
    (hown : w3.ownsRow w.heap.size 3 1 v' (m + 1) (nums xs ++ [.int .i64 (k : Int)])) (hgr : (w2.alloc o).grownBy w3 v.ownBlock)
    (hat : v'.ownBlock = v.ownBlock ∨ v'.ownBlock = some (w2.alloc o).heap.size) : Taken w p D w3 T v' (xs ++ [k]) := by
  obtain ⟨Dk, h1, h2, h3, h4, h5⟩ := h
  have hv : ∀ b, v.ownBlock = some b → w.heap.size ≤ b ∧ b < w2.heap.size := by
    intro b hb
    rcases h2.2 with ⟨rfl, _⟩ | ⟨g', cap, cur, rfl, hb', hc, _⟩
    · cases hb
    · cases hb; exact ⟨hb', lt_of_block hc⟩
  have hm3 : Mod (fun b => v.ownBlock = some b) w2 w3 := ((Mod.refl _ w2).alloc o).trans ((mod_of_grown hgr).mono (fun b _ hb => .inl hb))
  have hsz : (w2.alloc o).heap.size = w2.heap.size + 1 := by simp
  refine ⟨Dk, h1.mod hm3 (fun b hb hbv => h3 b hbv hb), ?_, ?_, ?_, h5.trans (hm3.mono (fun b _ hb => .inr (hv b hb)))⟩
  · rw [nums_snoc, List.length_append, ← hm]
    exact hown
  · intro g hg hgd
    rcases hat with hat | hat
    · exact h3 g (hat ▸ hg) hgd
    · rw [hat] at hg
      have := h1.lt g hgd
      simp only [Option.some.injEq] at hg
      omega
  · intro b hb
    rcases h4 b hb with h | h
    · exact .inl h
    · exact .inr ⟨h.1, by have := hm3.size; omega⟩

theorem Taken.set {w : World} {p : Nat} {D : Nat → Prop} {wr w2 : World} {T T2 : Sh} {v : Value} {xs : List Nat} {Dk : Nat → Prop} (h1 : SheetAt wr p Dk T) (h2 : wr.ownsRow w.heap.size 3 1 v xs.length (nums xs))
    (h3 : ∀ g, v.ownBlock = some g → ¬ Dk g) (h4 : ∀ b, Dk b → grow D w wr b) (h5 : Mod D w wr)
    (k1 : SheetAt w2 p (grow Dk wr w2) T2) (k2 : Mod Dk wr w2) : Taken w p D w2 T2 v xs := by
  have hD : ∀ b, grow Dk wr w2 b → grow D w w2 b := by
    intro b hb
    rcases hb with hb | hb
    · rcases h4 b hb with h | h
      · exact .inl h
      · exact .inr ⟨h.1, by have := k2.size; omega⟩
    · exact .inr ⟨by have := h5.size; omega, hb.2⟩
  refine ⟨grow Dk wr w2, k1, k2.own h2 h3, ?_, hD, h5.trans (k2.mono (fun b hb hd => h4 b hd))⟩
  intro g hg hgd
  rcases hgd with hgd | hgd
  · exact h3 g hg hgd
  · have := own_lt h2 hg; omega

set_option maxRecDepth 20000 in
set_option maxHeartbeats 1000000 in
theorem take_ok0 {w : World} {p : Nat} {D : Nat → Prop} {S : Sh} (HT0 : Hid (Taken w p D w S (.slice none 0 0) [])) (HL : Hid (S.was.length + 2400 < 1099511627776)) (n y fu : Nat) (hn : n ≤ y) (hy : y ≤ 256)
    (HF : Hid (Calls Try.prog 19 #[.pointer (some ⟨p, 0, none⟩)] w fun e w' => e = .returned (.int .i64 (y : Nat)) ∧ w = w')) (HFR : Hid (n ≤ freeFrom S 1 fu)) (HFU : Hid (fu = 255)) :
    Calls Try.prog 89 #[.pointer (some ⟨p, 0, none⟩), .int .i64 n] w fun e w' => ∃ v, e = .returned (.tuple #[v, .int .i64 0]) ∧ Taken w p D w' (takeFrom fu S 1 n).1 v (takeFrom fu S 1 n).2 := by
  obtain ⟨i0, hi, hz0, hz1, hz2⟩ := info_parts infoInt
  go_enter Try.func89, Try.ntmps89
  go_wp2_with (go_at_call 19; refine HF.out.mono ?_; rintro e w' ⟨rfl, rfl⟩)
  simp only [Nat.not_lt.2 hn, decide_false]
  go_loopg [6, 7] 255 (fun g v b wr => ∃ (k m : Nat) (T : Sh) (xs : List Nat), k + g = 256 ∧ 1 ≤ k ∧ b = .int .i64 k ∧ m ≤ n ∧ Hid (m = xs.length) ∧ Hid (Taken w p D wr T v xs) ∧ Hid (T.was.length + 9 * g ≤ S.was.length + 2300) ∧
    Hid (n - m ≤ freeFrom T k g) ∧ Hid ((takeFrom g T k (n - m)).1 = (takeFrom fu S 1 n).1 ∧ xs ++ (takeFrom g T k (n - m)).2 = (takeFrom fu S 1 n).2))
  case atStart =>
    refine ⟨1, 0, S, [], by omega, by omega, rfl, by omega, rfl, HT0.out, ?_, ?_, ?_⟩
    · have := HL.out; unfold Hid; omega
    · have h1 := HFU.out; have h2 := HFR.out; subst h1; exact h2
    · have h1 := HFU.out; subst h1; exact ⟨rfl, rfl⟩
  case round =>
    obtain ⟨k, m, T, xs, hk, hk1, rfl, hmn, HM, HT, HW, HFF, HR⟩ := hrel
    obtain ⟨Dk, h1, h2, h3, h4, h5⟩ := id HT.out
    obtain ⟨ao, cap, hv, hn', hm', hao⟩ := own_shape h2
    rw [← HM.out] at hv
    subst hv
    have HS1 := Lib.hid h1
    have HH2 := Lib.hid h2
    have HH3 := Lib.hid h3
    have HH4 := Lib.hid h4
    have HH5 := Lib.hid h5
    clear h1 h2 h3 h4 h5 hao hm'
    by_cases hlt : m < n
    · have hff := HFF.out
      have hg0 : 0 < gk := by
        rcases Nat.eq_zero_or_pos gk with h0 | h0
        · subst h0; simp only [freeFrom] at hff; omega
        · exact h0
      obtain ⟨g', hg'⟩ : ∃ g', gk = g' + 1 := ⟨gk - 1, by omega⟩
      have hk2 : k < 256 := by omega
      have HUS := Lib.hid (used_any HS1.out k hk2)
      cases hb : bitB T k with
      | true =>
        rw [hb] at HUS
        have HB := Lib.hid hb
        clear hb hff
        go_wp2_with (go_at_call 52; refine HUS.out.mono ?_; rintro e w' ⟨rfl, rfl⟩)
        go_roundg (g')
        case measure => omega
        case rel =>
          have hr := HR.out
          have hf := HFF.out
          have hw := HW.out
          subst hg'
          rw [takeFrom_used HB.out (by omega)] at hr
          simp only [freeFrom, HB.out] at hf
          exact ⟨k + 1, m, T, xs, by omega, by omega, (by simp), by omega, HM.out, HT.out, (by unfold Hid; omega), (by unfold Hid; simpa using hf), hr⟩
      | false =>
        rw [hb] at HUS
        have HB := Lib.hid hb
        clear hb hff
        have hw1 : T.was.length < 1099511627776 := by have := HW.out; have := HL.out; omega
        have hw2 : (setB T k true).was.length + 8 < 1099511627776 := by have := setB_was T k true; have := HW.out; have := HL.out; omega
        have HSET := Lib.hid (set_any HS1.out hw1 k hk2 true)
        have HCL : Hid (∀ w1, SheetAt w1 p (grow Dk wr w1) (setB T k true) → _) := fun w1 h => clean_any h hw2 k hk2
        clear hw1 hw2
        go_wp2_with (first | (go_at_call 52; refine HUS.out.mono ?_; rintro e w' ⟨rfl, rfl⟩) | (go_at_call 67; refine HSET.out.mono ?_; rintro e w1 ⟨rfl, hs1, hm1⟩; have HC1 := Lib.hid (HCL.out _ hs1); have HM1 := Lib.hid hm1; clear hs1 hm1) | (go_at_call 111; refine HC1.out.mono ?_; rintro e w2 ⟨rfl, hs2, hm2⟩; rw [grow_grow HM1.out.size hm2.size] at hs2; have HT2 := Lib.hid (Taken.set HS1.out HH2.out HH3.out HH4.out HH5.out hs2 (HM1.out.trans hm2)); have ho2 := HT2.out.own; rw [← HM.out] at ho2; have HO2 := Lib.hid ho2; clear ho2 hs2 hm2) | (at_builtin; refine wpList_append_own_at _ rfl (.tmp 32) (.tmp 34) 56 rfl w.heap.size 3 i0 (.int .i64 0) 1 8 Try.underlying56 hi hz0 hz1 hz2 rfl (by decide) _ _ _ rfl (HO2.out.alloc _) ⟨w2.heap.size, 0, none⟩ 1 1 [.int .i64 (k : Int)] rfl rfl (cells_new _ _ _) (by simp [Value.oneCell']) (by unfold maxLen; omega) (by omega) (by have := HT2.out.size; simp; omega) ?_))
        intro v' w3 hown hgr _ hat
        have HT3 := Lib.hid (Taken.push HT2.out k m HM.out hown hgr (by simpa using hat))
        clear hown hgr hat
        go_wp2
        go_roundg (g')
        case measure => omega
        case rel =>
          have hr := HR.out
          have hf := HFF.out
          have hw := HW.out
          have hwt := takeB_was T k
          subst hg'
          rw [takeFrom_free HB.out (by omega)] at hr
          simp only [freeFrom, HB.out, if_true] at hf
          refine ⟨k + 1, m + 1, takeB T k, xs ++ [k], by omega, by omega, (by simp), by omega, ?_, HT3.out, (by unfold Hid; omega), ?_, ?_⟩
          · have := HM.out; unfold Hid; simp; omega
          · unfold Hid; rw [freeFrom_takeB T k hk2 hk1 g' (by omega)]; omega
          · unfold Hid
            rw [show n - (m + 1) = n - m - 1 by omega]
            simpa using hr
    · obtain rfl : m = n := by omega
      go_wp2
      go_ret2
      have hr := HR.out
      rw [Nat.sub_self, takeFrom_zero] at hr
      refine ⟨_, rfl, ?_⟩
      rw [← hr.1, ← hr.2, List.append_nil]
      exact HT.out

theorem take_ok {w : World} {p : Nat} {D : Nat → Prop} {S : Sh} (h : SheetAt w p D S) (hlen : S.was.length + 2400 < 1099511627776) (n : Nat) (hn : n ≤ freeN S) :
    Calls Try.prog 89 #[.pointer (some ⟨p, 0, none⟩), .int .i64 n] w fun e w' => ∃ v, e = .returned (.tuple #[v, .int .i64 0]) ∧ Taken w p D w' (takeFrom 255 S 1 n).1 v (takeFrom 255 S 1 n).2 :=
  take_ok0 (Taken.start h) hlen n (freeN S) 255 hn (freeTo_le S 256) (free_any h) (freeN_from S ▸ hn) rfl
end Go.Proofs.Ytlopdbhjdijlmaa
