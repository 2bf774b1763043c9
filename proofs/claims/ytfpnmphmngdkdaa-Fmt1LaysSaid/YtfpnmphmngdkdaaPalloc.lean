/-
  What the functions of package palloc answer: contracts, over a sheet that is known by its words. No condition but the bounds that are typed.
-/
import Derived.Test.YtfpnmphmngdkdaaTx2
import Derived.Test.YtfpnmphmngdkdaaPallocM
namespace Go.Proofs.Ytfpnmphmngdkdaa
open Go.ChangeShapes Go.WideShapes Go.ChangeAt Go.RowKit
set_option linter.unusedSimpArgs false
set_option linter.unusedVariables false

theorem Mod.undrew {D : Nat → Prop} {w w' : World} (h : Mod D w.drew w') : Mod D w w' := ⟨h.os, h.tape, h.output, h.size, h.block⟩

theorem grow_grow {D : Nat → Prop} {a b c : World} (h1 : a.heap.size ≤ b.heap.size) (h2 : b.heap.size ≤ c.heap.size) : grow (grow D a b) b c = grow D a c := by
  funext k
  unfold grow
  apply propext
  constructor
  · rintro ((h | h) | h)
    · exact .inl h
    · exact .inr (by omega)
    · exact .inr (by omega)
  · rintro (h | h)
    · exact .inl (.inl h)
    · by_cases hb : k < b.heap.size
      · exact .inl (.inr (by omega))
      · exact .inr (by omega)

theorem sheet_same {w : World} {p : Nat} {D : Nat → Prop} {S : Sh} (h : SheetAt w p D S) : SheetAt w p (grow D w w) S :=
  h.mono (fun b hb => .inl hb) (fun b hb => h.lt b (grow_refl.1 hb))

theorem bit_form (x k : Nat) (hx : x < 18446744073709551616) : (bits .and .u64 ((x : Int) / 2 ^ k) 1 == 1) = x.testBit k := by
  have e : ((x : Int) / 2 ^ k) = ((x / 2 ^ k : Nat) : Int) := by simp
  have hl : x / 2 ^ k < 18446744073709551616 := Nat.lt_of_le_of_lt (Nat.div_le_self _ _) hx
  have h1 : bits .and .u64 ((x / 2 ^ k : Nat) : Int) ((1 : Nat) : Int) = ((x / 2 ^ k &&& 1 : Nat) : Int) := u64_and_nat _ 1 hl (by omega)
  rw [e, show (1 : Int) = ((1 : Nat) : Int) from rfl, h1, nat_mask1, Nat.testBit_eq_decide_div_mod_eq]
  rw [Bool.eq_iff_iff]
  simp
  omega

theorem pin_any (i : Int) (w : World) : Calls Try.prog 117 #[.int .i64 i] w fun e w' => e = .returned (.bool (decide (0 ≤ i ∧ i < 256))) ∧ w = w' := by
  by_cases h : 0 ≤ i
  · go_enter Try.func117, Try.ntmps117
    go_wp2
    go_ret
    simp [h]
  · go_enter Try.func117, Try.ntmps117
    go_wp2
    go_ret
    simp
    omega

theorem used_out {w : World} {p : Nat} (b : Int) (hb : ¬ (0 ≤ b ∧ b < 256)) :
    Calls Try.prog 113 #[.pointer (some ⟨p, 0, none⟩), .int .i64 b] w fun e w' => e = .returned (.bool true) ∧ w = w' := by
  have HB : Hid (decide (0 ≤ b ∧ b < 256) = false) := decide_eq_false hb
  clear hb
  go_enter Try.func113, Try.ntmps113
  go_wp2_with (go_at_call 117; refine (pin_any _ _).mono ?_; rintro e w' ⟨rfl, rfl⟩; rw [HB.out])
  go_ret
  exact ⟨rfl, rfl⟩

theorem used_any {w : World} {p : Nat} {D : Nat → Prop} {S : Sh} (h : SheetAt w p D S) (b : Nat) (hb : b < 256) :
    Calls Try.prog 113 #[.pointer (some ⟨p, 0, none⟩), .int .i64 b] w fun e w' => e = .returned (.bool (bitB S b)) ∧ w = w' := by
  have HS := Lib.hid h
  have HB : Hid (decide (0 ≤ (b : Int) ∧ (b : Int) < 256) = true) := decide_eq_true (by omega)
  have hok := h.ok.now (816 + b / 64)
  have HG : Hid (S.get (816 + (b : Int) / 64) = ((S.now (816 + b / 64)).toNat : Nat)) := by
    have e : (816 + (b : Int) / 64) = ((816 + b / 64 : Nat) : Int) := by omega
    unfold Hid Sh.get
    rw [e, if_pos (by omega)]
    simp only [Int.toNat_natCast]
    omega
  have HBIT : Hid (bitB S b = (S.now (816 + b / 64)).toNat.testBit (b % 64)) := rfl
  have hlt : (S.now (816 + b / 64)).toNat < 18446744073709551616 := by omega
  generalize (S.now (816 + b / 64)).toNat = x at HG HBIT hlt
  have HLT := Lib.hid hlt
  clear h hok hlt
  go_enter Try.func113, Try.ntmps113
  go_wp2_with (first | (go_at_call 117; refine (pin_any _ _).mono ?_; rintro e w' ⟨rfl, rfl⟩; rw [HB.out]) | (go_at_call 97; refine (sheet_get HS.out _).mono ?_; rintro e w' ⟨rfl, rfl⟩; rw [HG.out]))
  go_ret
  rw [HBIT.out, ← bit_form x (b % 64) HLT.out]
  exact ⟨rfl, rfl⟩

theorem flip_form (x k : Nat) (hx : x < 18446744073709551616) (hk : k < 64) : bits .xor .u64 (x : Int) (IntKind.u64.wrap (2 ^ k)) = ((x ^^^ 2 ^ k : Nat) : Int) := by
  have hp : 2 ^ k < 18446744073709551616 := Nat.lt_of_lt_of_le (Nat.pow_lt_pow_right (by decide) hk) (by decide)
  have e : (2 : Int) ^ k = ((2 ^ k : Nat) : Int) := by simp
  have hx2 := u64_xor_nat x (2 ^ k) hx hp
  rw [e]
  generalize 2 ^ k = y at hp hx2 ⊢
  rw [IntKind.wrap_u64, Int.emod_eq_of_lt (by omega) (by omega), hx2]

theorem set_any {w : World} {p : Nat} {D : Nat → Prop} {S : Sh} (h : SheetAt w p D S) (hlen : S.was.length < 1099511627776) (b : Nat) (hb : b < 256) (u : Bool) :
    Calls Try.prog 71 #[.pointer (some ⟨p, 0, none⟩), .int .i64 b, .bool u] w fun e w' => e = .returned (.tuple #[]) ∧ SheetAt w' p (grow D w w') (setB S b u) ∧ Mod D w w' := by
  have HS := Lib.hid h
  have HB : Hid (decide (0 ≤ (b : Int) ∧ (b : Int) < 256) = true) := decide_eq_true (by omega)
  have hsame : Hid (SheetAt w p (grow D w w) S ∧ Mod D w w) := ⟨h.mono (fun b hb => .inl hb) (fun b hb => h.lt b (grow_refl.1 hb)), Mod.refl _ _⟩
  by_cases hc : b = 0 ∨ bitB S b = u
  · have HST : Hid (setB S b u = S) := by unfold Hid setB; rw [if_pos hc]
    by_cases h0 : b = 0
    · have hb0 : ((b : Int) == 0) = true := by rw [h0]; rfl
      clear h hc h0
      go_enter Try.func71, Try.ntmps71
      go_wp2_with (go_at_call 117; refine (pin_any _ _).mono ?_; rintro e w' ⟨rfl, rfl⟩; rw [HB.out])
      refine bodyPost_ret (results_none rfl _ _ _) rfl ?_
      rw [HST.out]
      exact ⟨rfl, hsame.out⟩
    · have hu : bitB S b = u := by rcases hc with hc | hc; exact absurd hc h0; exact hc
      have HUS := Lib.hid (used_any h b hb)
      rw [hu] at HUS
      have hb0 : ((b : Int) == 0) = false := beq_eq_false_iff_ne.2 (by omega)
      clear h hc hu h0
      cases u
      all_goals
        go_enter Try.func71, Try.ntmps71
        go_wp2_with (first | (go_at_call 117; refine (pin_any _ _).mono ?_; rintro e w' ⟨rfl, rfl⟩; rw [HB.out]) | (go_at_call 113; refine HUS.out.mono ?_; rintro e w' ⟨rfl, rfl⟩))
        refine bodyPost_ret (results_none rfl _ _ _) rfl ?_
        rw [HST.out]
        exact ⟨rfl, hsame.out⟩
  · have h0 : b ≠ 0 := fun e => hc (.inl e)
    have hu : bitB S b = !u := by
      have : bitB S b ≠ u := fun e => hc (.inr e)
      cases hbb : bitB S b <;> cases u <;> simp_all
    have HST : Hid (setB S b u = S.put (816 + (b : Int) / 64) (flipW S b : Nat)) := by
      unfold Hid setB
      rw [if_neg hc]
      congr 1
    have HUS := Lib.hid (used_any h b hb)
    rw [hu] at HUS
    have hb0 : ((b : Int) == 0) = false := beq_eq_false_iff_ne.2 (by omega)
    have hok := h.ok.now (816 + b / 64)
    have HG : Hid (S.get (816 + (b : Int) / 64) = ((S.now (816 + b / 64)).toNat : Nat)) := by
      have e : (816 + (b : Int) / 64) = ((816 + b / 64 : Nat) : Int) := by omega
      unfold Hid Sh.get
      rw [e, if_pos (by omega)]
      simp only [Int.toNat_natCast]
      omega
    have hfl : flipW S b = (S.now (816 + b / 64)).toNat ^^^ 2 ^ (b % 64) := rfl
    have hfw := flipW_lt h.ok b
    have hlt : (S.now (816 + b / 64)).toNat < 18446744073709551616 := by omega
    have HFF := Lib.hid (flip_form (S.now (816 + b / 64)).toNat (b % 64) hlt (Nat.mod_lt _ (by decide)))
    rw [← hfl] at HFF
    generalize (S.now (816 + b / 64)).toNat = x at HG HFF hlt hfl
    generalize flipW S b = fw at HST HFF hfw hfl
    have HPUT := Lib.hid (sheet_put h.drew hlen (816 + (b : Int) / 64) fw (by omega) (by omega))
    obtain ⟨k, hk⟩ : ∃ k, k = b % 64 := ⟨_, rfl⟩
    rw [← hk] at HFF
    have htm : (b : Int).tmod 64 = (k : Int) := by rw [Int.tmod_eq_emod_of_nonneg (by omega)]; omega
    have hk64 : k < 64 := by omega
    clear h hc hu h0 hok hlt hfl hfw hk
    cases u
    all_goals
      go_enter Try.func71, Try.ntmps71
      go_wp2_with (first | (go_at_call 117; refine (pin_any _ _).mono ?_; rintro e w' ⟨rfl, rfl⟩; rw [HB.out]) | (go_at_call 113; refine HUS.out.mono ?_; rintro e w' ⟨rfl, rfl⟩))
      go_region_with (first | (go_at_call 97; refine (sheet_get HS.out.drew _).mono ?_; rintro e w' ⟨rfl, rfl⟩; rw [HG.out]) | (go_at_call 27; rw [HFF.out]; refine HPUT.out.mono ?_; rintro e w2 ⟨rfl, hS2, hm2⟩; have HS2 := Lib.hid hS2; have HM2 := Lib.hid hm2; clear hS2 hm2))
      go_wp2
      go_end0
      rw [HST.out]
      exact ⟨rfl, HS2.out, HM2.out.undrew⟩

set_option maxRecDepth 20000 in
theorem free_any {w : World} {p : Nat} {D : Nat → Prop} {S : Sh} (h : SheetAt w p D S) :
    Calls Try.prog 69 #[.pointer (some ⟨p, 0, none⟩)] w fun e w' => e = .returned (.int .i64 (freeN S : Nat)) ∧ w = w' := by
  have HS := Lib.hid h
  clear h
  have HF : Hid (freeN S = freeTo S 256) := rfl
  go_enter Try.func69, Try.ntmps69
  go_wp2
  go_loopg [3, 4] 255 (fun g n b wr => ∃ k : Nat, k + g = 256 ∧ 1 ≤ k ∧ b = .int .i64 k ∧ n = .int .i64 (freeTo S k : Nat) ∧ w = wr)
  case atStart => exact ⟨1, by omega, by omega, rfl, rfl, rfl⟩
  case round =>
    obtain ⟨k, hk, hk1, rfl, rfl, rfl⟩ := hrel
    have hle := freeTo_le S k
    by_cases hlt : k < 256
    · have HUS := Lib.hid (used_any HS.out k hlt)
      have HN : Hid (freeTo S (k + 1) = freeTo S k + if 1 ≤ k ∧ bitB S k = false then 1 else 0) := rfl
      generalize freeTo S k = y at hle HN
      cases hb : bitB S k with
      | true =>
        rw [hb] at HUS HN
        clear hb
        go_wp2_with (go_at_call 113; refine HUS.out.mono ?_; rintro e w' ⟨rfl, rfl⟩)
        go_roundg (gk - 1)
        case measure => omega
        case rel => exact ⟨k + 1, by omega, by omega, by go_num, by rw [HN.out]; simp, rfl⟩
      | false =>
        rw [hb] at HUS HN
        clear hb
        go_wp2_with (go_at_call 113; refine HUS.out.mono ?_; rintro e w' ⟨rfl, rfl⟩)
        go_roundg (gk - 1)
        case measure => omega
        case rel => exact ⟨k + 1, by omega, by omega, by go_num, by rw [HN.out]; simp [hk1], rfl⟩
    · obtain rfl : k = 256 := by omega
      go_wp2
      go_ret
      rw [HF.out]
      exact ⟨rfl, rfl⟩

theorem get_nat {S : Sh} (i : Nat) (h : i < 3128) : S.get (i : Int) = S.now i := by
  unfold Sh.get
  rw [if_pos (by omega)]
  rfl

set_option maxRecDepth 20000 in
theorem clean_any {w : World} {p : Nat} {D : Nat → Prop} {S : Sh} (h : SheetAt w p D S) (hlen : S.was.length + 8 < 1099511627776) (b : Nat) (hb : b < 256) :
    Calls Try.prog 114 #[.pointer (some ⟨p, 0, none⟩), .int .i64 b] w fun e w' => e = .returned (.tuple #[]) ∧ SheetAt w' p (grow D w w') (cleanB S b) ∧ Mod D w w' := by
  have HS := Lib.hid (sheet_same h)
  clear h
  have HB : Hid ((if (b : Int) < 0 ∨ 256 ≤ (b : Int) then (-1 : Int) else 1080 + (b : Int) * 8) = 1080 + (b : Int) * 8) := if_neg (by omega)
  go_enter Try.func114, Try.ntmps114
  go_wp2
  go_loopg [6] 8 (fun g i wr => ∃ k : Nat, k + g = 8 ∧ i = .int .i64 k ∧ Hid (SheetAt wr p (grow D w wr) (cleanTo S b k)) ∧ Hid (Mod D w wr))
  case atStart => exact ⟨0, by omega, rfl, HS.out, Mod.refl _ _⟩
  case round =>
    obtain ⟨k, hk, rfl, HSR, HMR⟩ := hrel
    by_cases hlt : k < 8
    · have hwas := cleanTo_was S b k
      have hidx : (1080 + (b : Int) * 8 + (k : Int)) = ((1080 + b * 8 + k : Nat) : Int) := by omega
      have HN : Hid (cleanTo S b (k + 1) = zeroAt (cleanTo S b k) (1080 + b * 8 + k)) := rfl
      generalize cleanTo S b k = T at HSR hwas HN
      have hg : T.get (1080 + (b : Int) * 8 + (k : Int)) = T.now (1080 + b * 8 + k) := by rw [hidx]; exact get_nat _ (by omega)
      have HG := Lib.hid hg
      have HPUT := Lib.hid (sheet_put HSR.out (by omega) (1080 + (b : Int) * 8 + (k : Int)) 0 (by omega) (by omega))
      by_cases h0 : T.now (1080 + b * 8 + k) = 0
      · have HZ : Hid (zeroAt T (1080 + b * 8 + k) = T) := if_pos h0
        have HH0 := Lib.hid h0
        clear h0 hg hidx
        go_wp2_with (first | (go_at_call 122; refine (block_any _ _).mono ?_; rintro e w' ⟨rfl, rfl⟩; rw [HB.out]) | (go_at_call 97; refine (sheet_get HSR.out _).mono ?_; rintro e w' ⟨rfl, rfl⟩; rw [HG.out, HH0.out]))
        go_roundg (gk - 1)
        case measure => omega
        case rel => exact ⟨k + 1, by omega, by go_num, by rw [HN.out, HZ.out]; exact HSR, HMR⟩
      · have HZ : Hid (zeroAt T (1080 + b * 8 + k) = T.put (1080 + (b : Int) * 8 + (k : Int)) 0) := by unfold Hid zeroAt; rw [if_neg h0, hidx]
        have hne : (T.now (1080 + b * 8 + k) != 0) = true := by simpa using h0
        clear h0 hg hidx
        go_wp2_with (first | (go_at_call 122; refine (block_any _ _).mono ?_; rintro e w' ⟨rfl, rfl⟩; rw [HB.out]) | (go_at_call 97; refine (sheet_get HSR.out _).mono ?_; rintro e w' ⟨rfl, rfl⟩; rw [HG.out]) | (go_at_call 27; refine HPUT.out.mono ?_; rintro e w2 ⟨rfl, hS2, hm2⟩; have HS2 := Lib.hid hS2; have HM2 := Lib.hid hm2; clear hS2 hm2))
        go_roundg (gk - 1)
        case measure => omega
        case rel =>
          have e := grow_grow (D := D) HMR.out.size HM2.out.size
          exact ⟨k + 1, by omega, by go_num, by rw [HN.out, HZ.out, ← e]; exact HS2, HMR.out.trans HM2.out⟩
    · obtain rfl : k = 8 := by omega
      go_wp2
      go_end0
      exact ⟨rfl, HSR.out, HMR.out⟩
end Go.Proofs.Ytfpnmphmngdkdaa
