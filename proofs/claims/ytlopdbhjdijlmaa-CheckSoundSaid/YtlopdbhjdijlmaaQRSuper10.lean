/-
  imagoref10.super: a contract. No condition but the words' lying there.
  The reference's byte of a word: a contract.
  imagoref10.tails: a contract. No condition but the bounds that are typed.
  imagoref05.Bits: a contract. No condition but the bounds that are typed.
  imagoref10.blocks: a contract. No condition but the bounds that are typed.
  imagoref10.Wrong: a contract. No condition but the bounds that are typed.
  What check.Sound tells is what the reference tells, of the same sheet: plain lemmas. Nothing is assumed.
  inode.Get, of what is there and of what isn't: a contract. No condition.
  imagolaw10.few: a contract. No condition.
  The words of a sheet, as a slice: a contract. No condition.
  The law CheckSound: the walk. No condition.
-/
import Derived.Test.YtlopdbhjdijlmaaQBelGot
import Derived.Deep.QuietTactic
import Derived.BigQuiet
import Derived.Test.YtlopdbhjdijlmaaQPackM
import Derived.Test.YtlopdbhjdijlmaaQBlocks10
import Derived.Test.YtlopdbhjdijlmaaQRefBel9
import Derived.Test.YtlopdbhjdijlmaaQTxM
import Derived.Test.YtlopdbhjdijlmaaQShStep
import Derived.StillTailTactics
import Derived.Test.YtlopdbhjdijlmaaQCount10
import Derived.Test.YtlopdbhjdijlmaaQOpenSt
import Derived.Test.YtlopdbhjdijlmaaQFew6
import Derived.Test.YtlopdbhjdijlmaaQLayGet
import Derived.Test.YtlopdbhjdijlmaaQOpenPr
import Derived.Deep.RegionHeld3

namespace Go.Proofs.Ytlopdbhjdijlmaa
open Go.ChangeShapes Go.WideShapes Go.ChangeAt Go.RowKit
set_option linter.unusedSimpArgs false
set_option linter.unusedVariables false

/-- The words of a sheet in a block of their own. -/
def WordsH (w : World) (g : Nat) (S : Sh) : Prop := ∀ j : Nat, j < 3128 → w.cell? ⟨g, j, none⟩ = some (.int .u64 (S.get (j : Int)))
theorem WordsH.still {w w' : World} {g : Nat} {S : Sh} (h : WordsH w g S) {D : Nat → Prop} (hm : Mod D w w') (hd : ¬ D g) : WordsH w' g S := fun j hj => hm.cell (h j hj) hd

set_option maxRecDepth 20000 in
set_option maxHeartbeats 4000000 in
theorem ref_super10 {w : World} {g c : Nat} {S : Sh} (hw : WordsH w g S) (hc : 3128 ≤ c ∧ c ≤ maxLen) :
    Calls Try.prog 75 #[.slice (some ⟨g, 0, none⟩) 3128 c] w fun e w' => e = .returned (.bool (superB S)) ∧ w = w' := by
  have HW := Lib.hid hw
  obtain ⟨bb, hbb⟩ : ∃ b, b = superB S := ⟨_, rfl⟩
  rw [← hbb]
  have HBB := Lib.hid hbb
  have HBP : Hid (bb = true ↔ SuperP S) := by
    unfold Hid
    rw [HBB.out]
    constructor
    · intro hb
      exact Classical.byContradiction fun hn => by rw [superB_false hn] at hb; cases hb
    · exact superB_true
  obtain ⟨hc1, hc2⟩ := hc
  unfold maxLen at hc2
  clear hw hbb
  go_enter Try.func75, Try.ntmps75
  go_wp2_with fail
  go_loopg [3] 5 (fun gk iv wr => ∃ k : Nat, k + gk = 8 ∧ 3 ≤ k ∧ iv = .int .i64 (k : Nat) ∧ Hid (∀ j : Nat, 3 ≤ j → j < k → S.get (j : Int) = 0) ∧ w = wr)
  case atStart => exact ⟨3, by omega, by omega, rfl, (fun j h1 h2 => by omega), rfl⟩
  case round =>
    obtain ⟨k, hk, hk3, rfl, HZ, rfl⟩ := hrel
    have hk0 : (0 : Int) ≤ (k : Int) := Int.natCast_nonneg _
    by_cases hlt : k < 8
    · have hki : (k : Int) < 8 := by omega
      have hkl : (k : Int) < 3128 := by omega
      have ck := HW.out k (by omega)
      obtain ⟨y, hy⟩ : ∃ y, y = S.get (k : Int) := ⟨_, rfl⟩
      rw [← hy] at ck
      have HY := Lib.hid hy
      clear hy
      by_cases h0 : y = 0
      · subst h0
        have HZN : Hid (∀ j : Nat, 3 ≤ j → j < k + 1 → S.get (j : Int) = 0) := fun j h1 h2 => by
          by_cases e : j = k
          · subst e; exact HY.out.symm
          · exact HZ.out j h1 (by omega)
        go_wp2_with fail
        go_roundg (gk - 1)
        case measure => omega
        case rel => exact ⟨k + 1, by omega, by omega, by go_num, HZN.out, rfl⟩
      · have hbf : bb = false := by
          rw [HBB.out]
          exact superB_false (fun hp => h0 (HY.out.trans (hp.1 k (by omega) (.inl ⟨hk3, hlt⟩))))
        have HBF := Lib.hid hbf
        have hb0 : (y != 0) = true := bne_iff_ne.2 h0
        clear hbf
        go_wp2_with fail
        go_ret
        exact ⟨by rw [HBF.out]; rfl, rfl⟩
    · obtain rfl : k = 8 := by omega
      have hki : ¬ ((8 : Nat) : Int) < 8 := by omega
      go_wp2_with fail
      go_loopg [4] 4 (fun gk iv wr => ∃ k : Nat, k + gk = 824 ∧ 820 ≤ k ∧ iv = .int .i64 (k : Nat) ∧ Hid (∀ j : Nat, 820 ≤ j → j < k → S.get (j : Int) = 0) ∧ w = wr)
      case atStart => exact ⟨820, by omega, by omega, rfl, (fun j h1 h2 => by omega), rfl⟩
      case round =>
        obtain ⟨k, hk, hk3, rfl, HZ2, rfl⟩ := hrel
        have hk0 : (0 : Int) ≤ (k : Int) := Int.natCast_nonneg _
        by_cases hlt : k < 824
        · have hki : (k : Int) < 824 := by omega
          have hkl : (k : Int) < 3128 := by omega
          have ck := HW.out k (by omega)
          obtain ⟨y, hy⟩ : ∃ y, y = S.get (k : Int) := ⟨_, rfl⟩
          rw [← hy] at ck
          have HY := Lib.hid hy
          clear hy
          by_cases h0 : y = 0
          · subst h0
            have HZN : Hid (∀ j : Nat, 820 ≤ j → j < k + 1 → S.get (j : Int) = 0) := fun j h1 h2 => by
              by_cases e : j = k
              · subst e; exact HY.out.symm
              · exact HZ2.out j h1 (by omega)
            go_wp2_with fail
            go_roundg (gk - 1)
            case measure => omega
            case rel => exact ⟨k + 1, by omega, by omega, by go_num, HZN.out, rfl⟩
          · have hbf : bb = false := by
              rw [HBB.out]
              exact superB_false (fun hp => h0 (HY.out.trans (hp.1 k (by omega) (.inr hk3))))
            have HBF := Lib.hid hbf
            have hb0 : (y != 0) = true := bne_iff_ne.2 h0
            clear hbf
            go_wp2_with fail
            go_ret
            exact ⟨by rw [HBF.out]; rfl, rfl⟩
        · obtain rfl : k = 824 := by omega
          have hki : ¬ ((824 : Nat) : Int) < 824 := by omega
          have HZP : Hid (ZeroP S 824) := fun j hj hu => by
            rcases hu with ⟨h1, h2⟩ | h1
            · exact HZ.out j h1 h2
            · exact HZ2.out j h1 hj
          have cc0 := HW.out 0 (by omega)
          have cc1 := HW.out 1 (by omega)
          have cc2 := HW.out 2 (by omega)
          rw [show ((0 : Nat) : Int) = 0 from rfl] at cc0
          rw [show ((1 : Nat) : Int) = 1 from rfl] at cc1
          rw [show ((2 : Nat) : Int) = 2 from rfl] at cc2
          obtain ⟨y0, hy0⟩ : ∃ y, y = S.get 0 := ⟨_, rfl⟩
          obtain ⟨y1, hy1⟩ : ∃ y, y = S.get 1 := ⟨_, rfl⟩
          obtain ⟨y2, hy2⟩ : ∃ y, y = S.get 2 := ⟨_, rfl⟩
          rw [← hy0] at cc0
          rw [← hy1] at cc1
          rw [← hy2] at cc2
          have hsp : bb = true ↔ y0 = 7596835243318849792 ∧ (y1 = 1 ∨ y1 = 2) ∧ y2 ≤ 32 := by
            rw [HBP.out]
            unfold SuperP
            rw [← hy0, ← hy1, ← hy2]
            exact ⟨fun h => h.2, fun h => ⟨HZP.out, h⟩⟩
          have HSP := Lib.hid hsp
          clear hy0 hy1 hy2 hsp HBP HBB HZP HZ HZ2
          by_cases h0 : y0 = 7596835243318849792
          · subst h0
            by_cases h2 : y2 ≤ 32
            · have g2 : decide (y2 ≤ 32) = true := decide_eq_true h2
              by_cases h1 : y1 = 1
              · subst h1
                have HB : Hid (bb = true) := HSP.out.2 ⟨rfl, .inl rfl, h2⟩
                go_wp2_with fail
                try go_quiet (fail)
                try go_wp2_with fail
                go_ret
                exact ⟨by rw [HB.out]; rfl, rfl⟩
              · by_cases h12 : y1 = 2
                · subst h12
                  have HB : Hid (bb = true) := HSP.out.2 ⟨rfl, .inr rfl, h2⟩
                  go_wp2_with fail
                  try go_quiet (fail)
                  try go_wp2_with fail
                  go_ret
                  exact ⟨by rw [HB.out]; rfl, rfl⟩
                · have HB : Hid (bb = false) := by
                    cases hb : bb with
                    | false => rfl
                    | true => rcases (HSP.out.1 hb).2.1 with h | h; exact absurd h h1; exact absurd h h12
                  have g0 : (y1 == 1) = false := beq_eq_false_iff_ne.2 h1
                  have g1 : (y1 == 2) = false := beq_eq_false_iff_ne.2 h12
                  go_wp2_with fail
                  try go_quiet (fail)
                  try go_wp2_with fail
                  go_ret
                  exact ⟨by rw [HB.out]; rfl, rfl⟩
            · have g2 : decide (y2 ≤ 32) = false := decide_eq_false h2
              have HB : Hid (bb = false) := by
                cases hb : bb with
                | false => rfl
                | true => exact absurd (HSP.out.1 hb).2.2 h2
              by_cases h1 : y1 = 1
              · subst h1
                go_wp2_with fail
                try go_quiet (fail)
                try go_wp2_with fail
                go_ret
                exact ⟨by rw [HB.out]; rfl, rfl⟩
              · have g0 : (y1 == 1) = false := beq_eq_false_iff_ne.2 h1
                by_cases h12 : y1 = 2
                · subst h12
                  go_wp2_with fail
                  try go_quiet (fail)
                  try go_wp2_with fail
                  go_ret
                  exact ⟨by rw [HB.out]; rfl, rfl⟩
                · have g1 : (y1 == 2) = false := beq_eq_false_iff_ne.2 h12
                  go_wp2_with fail
                  try go_quiet (fail)
                  try go_wp2_with fail
                  go_ret
                  exact ⟨by rw [HB.out]; rfl, rfl⟩
          · have HB : Hid (bb = false) := by
              cases hb : bb with
              | false => rfl
              | true => exact absurd (HSP.out.1 hb).1 h0
            have g0 : (y0 == 7596835243318849792) = false := beq_eq_false_iff_ne.2 h0
            go_wp2_with fail
            try go_quiet (fail)
            try go_wp2_with fail
            go_ret
            exact ⟨by rw [HB.out]; rfl, rfl⟩
end Go.Proofs.Ytlopdbhjdijlmaa

namespace Go.Proofs.Ytlopdbhjdijlmaa
open Go.ChangeShapes Go.WideShapes Go.ChangeAt Go.RowKit
set_option linter.unusedSimpArgs false
set_option linter.unusedVariables false

theorem byte_any (x : Nat) (hx : x < 18446744073709551616) (n : Nat) (hn : n < 8) (w : World) :
    Calls Try.prog 107 #[.int .u64 x, .int .i64 n] w fun e w' => e = .returned (.int .u8 (PackM.byteAt x n : Nat)) ∧ w = w' := by
  have HX := Lib.hid hx
  clear hx
  go_enter Try.func107, Try.ntmps107
  go_wp2
  go_loopg [0, 5] n (fun g y i wi => ∃ j : Nat, j + g = n ∧ i = .int .i64 j ∧ y = .int .u64 (x / 256 ^ j : Nat) ∧ w = wi)
  case atStart => exact ⟨0, by omega, rfl, by simp, rfl⟩
  case round =>
    obtain ⟨j, hj, rfl, rfl, rfl⟩ := hrel
    by_cases hlt : j < n
    · have hyl : x / 256 ^ j < 18446744073709551616 := Nat.lt_of_le_of_lt (Nat.div_le_self _ _) HX.out
      have HD : Hid (x / 256 ^ (j + 1) = x / 256 ^ j / 256) := by simp only [Hid, Nat.pow_succ, Nat.div_div_eq_div_mul]
      generalize x / 256 ^ j = y at hyl HD
      have HYL := Lib.hid hyl
      clear hyl
      go_wp2
      go_roundg (gk - 1)
      case measure => omega
      case rel => exact ⟨j + 1, by omega, by go_num, by rw [HD.out]; exact congrArg _ (div_wrap y HYL.out), rfl⟩
    · obtain rfl : j = n := by omega
      have HB : Hid (PackM.byteAt x j = x / 256 ^ j % 256) := rfl
      generalize x / 256 ^ j = y at HB
      go_wp2
      go_ret
      rw [HB.out]
      exact ⟨by simp, rfl⟩

end Go.Proofs.Ytlopdbhjdijlmaa

namespace Go.Proofs.Ytlopdbhjdijlmaa
open Go.ChangeShapes Go.WideShapes Go.ChangeAt Go.RowKit
set_option linter.unusedSimpArgs false
set_option linter.unusedVariables false

/-- What the reference looks at: each block's bytes behind the size. -/
def RTl (S : Sh) (n : Ino) (k : Nat) : Prop := ∀ j : Nat, j < 64 → 0 < n.bl.getD k 0 → n.size ≤ 64 * (k : Int) + (j : Int) → TlB S (n.bl.getD k 0) j = 0
def RTlP (S : Sh) (t : Nat → Ino) (n : Nat) : Prop := ∀ i, i < n → (t i).kind = 1 → ∀ k, k < 13 → RTl S (t i) k
open Classical in
noncomputable def rtlB (S : Sh) (t : Nat → Ino) : Bool := decide (RTlP S t 32)
open Classical in
theorem rtlB_true {S : Sh} {t : Nat → Ino} (h : RTlP S t 32) : rtlB S t = true := by unfold rtlB; exact decide_eq_true h
open Classical in
theorem rtlB_false {S : Sh} {t : Nat → Ino} (h : ¬ RTlP S t 32) : rtlB S t = false := by unfold rtlB; exact decide_eq_false h
theorem TabB.knd {w : World} {B : Nat} {f : Nat → Ino} {ev : Nat → Value} (h : TabB w B f ev) (i : Nat) (hi : i < 32) : w.cell? ⟨B, i * 18 + 1, none⟩ = some (.int .i64 (f i).kind) := h.range i hi 1 (.int .i64 (f i).kind) rfl
theorem TabB.siz {w : World} {B : Nat} {f : Nat → Ino} {ev : Nat → Value} (h : TabB w B f ev) (i : Nat) (hi : i < 32) : w.cell? ⟨B, i * 18 + 3, none⟩ = some (.int .i64 (f i).size) := h.range i hi 3 (.int .i64 (f i).size) rfl
theorem TabB.bln {w : World} {B : Nat} {f : Nat → Ino} {ev : Nat → Value} (h : TabB w B f ev) (i : Nat) (hi : i < 32) (j : Nat) (hj : j < 13) : w.cell? ⟨B, i * 18 + 4 + j, none⟩ = some (.int .i64 ((f i).bl.getD j 0)) := by
  have := h.range i hi (4 + j) _ ((inoL_get (h.2 i hi) (ev i)).2.2.2.2.1 j hj)
  rw [← Nat.add_assoc] at this
  exact this
/-- Sizes, and blocks, of a table. -/
def SizT (t : Nat → Ino) : Prop := ∀ k, k < 32 → (∃ sz : Nat, (t k).size = (sz : Int) ∧ sz ≤ 832) ∧ ∀ j, j < 13 → ∃ b : Nat, (t k).bl.getD j 0 = (b : Int) ∧ b < 256

set_option maxRecDepth 20000 in
set_option maxHeartbeats 4000000 in
theorem ref_tails10 {w : World} {g c : Nat} {S : Sh} {t : Nat → Ino} {ev : Nat → Value} (hok : S.Ok) (hw : WordsH w g S) (hc : 3128 ≤ c ∧ c ≤ maxLen) (hl : Len13 t) (hz : SizT t) :
    Calls Try.prog 77 #[.slice (some ⟨g, 0, none⟩) 3128 c, .agg (tabL t ev).toArray] w fun e w' => e = .returned (.bool (rtlB S t)) ∧ Below w.heap.size w w' := by
  have hb := TabB.new hl (ev := ev) w
  have HBEL : Hid (Below w.heap.size w (w.alloc (.cells (tabL t ev).toArray 44))) := (Below.refl _ _).alloc (Nat.le_refl _) _
  have HT := Lib.hid hb
  have HOK := Lib.hid hok
  have HSZ := Lib.hid hz
  have hm0 : Mod nob w (w.alloc (.cells (tabL t ev).toArray 44)) := (Mod.refl nob w).alloc _
  have HW := Lib.hid (hw.still hm0 (fun h => h))
  obtain ⟨bb, hbb⟩ : ∃ b, b = rtlB S t := ⟨_, rfl⟩
  rw [← hbb]
  have HBB := Lib.hid hbb
  obtain ⟨hc1, hc2⟩ := hc
  unfold maxLen at hc2
  clear hb hm0 hok hw hl hz hbb
  go_enter Try.func77, Try.ntmps77
  go_wp2_with fail
  generalize w.alloc (.cells (tabL t ev).toArray 44) = w0 at *
  obtain ⟨X, hX⟩ : ∃ X, X = w.heap.size := ⟨_, rfl⟩
  rw [← hX] at HT ⊢
  have HXX := Lib.hid hX
  clear hX
  go_loopg [5] 32 (fun gk iv wr => ∃ i : Nat, i + gk = 32 ∧ iv = .int .i64 (i : Nat) ∧ Hid (RTlP S t i) ∧ w0 = wr)
  case atStart => exact ⟨0, by omega, rfl, (fun j h => by omega), rfl⟩
  case round =>
    obtain ⟨i, hi, rfl, HP, rfl⟩ := hrel
    by_cases hlt : i < 32
    · have hii : (i : Int) < 32 := by omega
      have hi0 : (0 : Int) ≤ (i : Int) := Int.natCast_nonneg _
      have c1 := HT.out.knd i hlt
      have c3 := HT.out.siz i hlt
      obtain ⟨⟨sz, hsz, hsz2⟩, hbl⟩ := HSZ.out i hlt
      rw [hsz] at c3
      have HBL := Lib.hid hbl
      have HTS := Lib.hid hsz
      obtain ⟨ki, hki⟩ : ∃ x, x = (t i).kind := ⟨_, rfl⟩
      rw [← hki] at c1
      have HKI := Lib.hid hki
      clear hbl hsz hki
      by_cases hk1 : ki = 1
      · subst hk1
        go_wp2_with fail
        go_loopg [6] 13 (fun gk kv wr => ∃ k : Nat, k + gk = 13 ∧ kv = .int .i64 (k : Nat) ∧ Hid (∀ q, q < k → RTl S (t i) q) ∧ w0 = wr)
        case atStart => exact ⟨0, by omega, rfl, (fun j h => by omega), rfl⟩
        case round =>
          obtain ⟨k, hk, rfl, HQ, rfl⟩ := hrel
          have hk0 : (0 : Int) ≤ (k : Int) := Int.natCast_nonneg _
          by_cases hltk : k < 13
          · have hkk : (k : Int) < 13 := by omega
            obtain ⟨b, hb, hb256⟩ := HBL.out k hltk
            have bc := HT.out.bln i hlt k hltk
            rw [hb] at bc
            have HB := Lib.hid hb
            clear hb
            by_cases h0 : b = 0
            · subst h0
              rw [show ((0 : Nat) : Int) = 0 from rfl] at bc
              have HQN : Hid (∀ q, q < k + 1 → RTl S (t i) q) := fun q hq => by
                by_cases e : q = k
                · subst e
                  intro j _ h2 _
                  rw [HB.out] at h2
                  omega
                · exact HQ.out q (by omega)
              go_wp2_with fail
              go_loopg [7] 1 (fun gk jv wr => jv = .int .i64 0 ∧ w0 = wr)
              case atStart => exact ⟨rfl, rfl⟩
              case round =>
                obtain ⟨rfl, rfl⟩ := hrel
                go_wp2_with fail
                go_roundg (13 - k - 1)
                case measure => omega
                case rel => exact ⟨k + 1, by omega, by go_num, HQN.out, rfl⟩
            · have hbp : (0 : Int) < (b : Int) := by omega
              go_wp2_with fail
              go_loopg [7] 64 (fun gk jv wr => ∃ j : Nat, j + gk = 64 ∧ jv = .int .i64 (j : Nat) ∧ Hid (∀ q : Nat, q < j → (sz : Int) ≤ 64 * (k : Int) + (q : Int) → TlB S (b : Int) q = 0) ∧ w0 = wr)
              case atStart => exact ⟨0, by omega, rfl, (fun j h => by omega), rfl⟩
              case round =>
                obtain ⟨j, hj, rfl, HJ, rfl⟩ := hrel
                have hj0 : (0 : Int) ≤ (j : Int) := Int.natCast_nonneg _
                by_cases hltj : j < 64
                · have hjj : (j : Int) < 64 := by omega
                  by_cases hs : (sz : Int) ≤ 64 * (k : Int) + (j : Int)
                  · obtain ⟨a, ha⟩ : ∃ a : Nat, a = 1080 + 8 * b + j / 8 := ⟨_, rfl⟩
                    have ha2 : a < 3128 := by omega
                    have hai : 1080 + 8 * (b : Int) + (j : Int) / 8 = (a : Int) := by omega
                    have ha3 : (a : Int) < 3128 := by omega
                    have ha4 : (0 : Int) ≤ (a : Int) := Int.natCast_nonneg _
                    have wc := HW.out a ha2
                    have hx := HOK.out.get (a : Int)
                    obtain ⟨x, hxe⟩ : ∃ x : Nat, S.get (a : Int) = (x : Int) := ⟨(S.get (a : Int)).toNat, by omega⟩
                    have hxl : x < 18446744073709551616 := by omega
                    rw [hxe] at wc
                    have HTB : Hid (TlB S (b : Int) j = PackM.byteAt x (j % 8)) := by
                      unfold Hid TlB
                      rw [show 1080 + (b : Int) * 8 + ((j / 8 : Nat) : Int) = (a : Int) by omega, hxe, Int.toNat_natCast]
                    have HBY := Lib.hid (byte_any x hxl (j % 8) (Nat.mod_lt _ (by decide)) w0)
                    have hr8 : (j : Int) % 8 = ((j % 8 : Nat) : Int) := by omega
                    have HR8 := Lib.hid hr8
                    obtain ⟨bv, hbv⟩ : ∃ bv, bv = PackM.byteAt x (j % 8) := ⟨_, rfl⟩
                    rw [← hbv] at HBY HTB
                    have hbv2 : bv < 256 := by rw [hbv]; exact byteAt_lt _ _
                    clear hbv hx hxe hxl ha hr8
                    by_cases hz : bv = 0
                    · subst hz
                      rw [show ((0 : Nat) : Int) = 0 from rfl] at HBY
                      have HJN : Hid (∀ q : Nat, q < j + 1 → (sz : Int) ≤ 64 * (k : Int) + (q : Int) → TlB S (b : Int) q = 0) := fun q hq h2 => by
                        by_cases e : q = j
                        · subst e; exact HTB.out
                        · exact HJ.out q (by omega) h2
                      go_wp2_with (go_at_call 107; rw [HR8.out]; (with_reducible refine HBY.out.mono ?_); (rintro e w6 ⟨rfl, rfl⟩))
                      go_roundg (gk - 1)
                      case measure => omega
                      case rel => exact ⟨j + 1, by omega, by go_num, HJN.out, rfl⟩
                    · have HBF : Hid (bb = false) := by
                        unfold Hid
                        rw [HBB.out]
                        refine rtlB_false (fun hp => ?_)
                        have := hp i hlt HKI.out.symm k hltk j hltj (by rw [HB.out]; exact hbp) (by rw [HTS.out]; exact hs)
                        rw [HB.out, HTB.out] at this
                        exact hz this
                      have hzb : (((bv : Nat) : Int) != 0) = true := by simpa using hz
                      go_wp2_with (go_at_call 107; rw [HR8.out]; (with_reducible refine HBY.out.mono ?_); (rintro e w6 ⟨rfl, rfl⟩))
                      go_ret
                      exact ⟨by rw [HBF.out]; rfl, HBEL.out⟩
                  · have hsb : decide ((sz : Int) ≤ 64 * (k : Int) + (j : Int)) = false := decide_eq_false hs
                    have HJN : Hid (∀ q : Nat, q < j + 1 → (sz : Int) ≤ 64 * (k : Int) + (q : Int) → TlB S (b : Int) q = 0) := fun q hq h2 => by
                      by_cases e : q = j
                      · subst e; exact absurd h2 hs
                      · exact HJ.out q (by omega) h2
                    go_wp2_with fail
                    go_roundg (gk - 1)
                    case measure => omega
                    case rel => exact ⟨j + 1, by omega, by go_num, HJN.out, rfl⟩
                · obtain rfl : j = 64 := by omega
                  have hjj : ¬ ((64 : Nat) : Int) < 64 := by omega
                  have HQN : Hid (∀ q, q < k + 1 → RTl S (t i) q) := fun q hq => by
                    by_cases e : q = k
                    · subst e
                      intro j h1 _ h3
                      rw [HTS.out] at h3
                      rw [HB.out]
                      exact HJ.out j h1 h3
                    · exact HQ.out q (by omega)
                  go_wp2_with fail
                  go_roundg (13 - k - 1)
                  case measure => omega
                  case rel => exact ⟨k + 1, by omega, by go_num, HQN.out, rfl⟩
          · obtain rfl : k = 13 := by omega
            have hkk : ¬ ((13 : Nat) : Int) < 13 := by omega
            have HPN : Hid (RTlP S t (i + 1)) := fun q hq hkq => by
              by_cases e : q = i
              · subst e; exact HQ.out
              · exact HP.out q (by omega) hkq
            go_wp2_with fail
            go_roundg (32 - i - 1)
            case measure => omega
            case rel => exact ⟨i + 1, by omega, by go_num, HPN.out, rfl⟩
      · have HPN : Hid (RTlP S t (i + 1)) := fun q hq hkq => by
          by_cases e : q = i
          · subst e
            exact absurd (HKI.out.trans hkq) hk1
          · exact HP.out q (by omega) hkq
        have hkb : (ki == 1) = false := beq_eq_false_iff_ne.2 hk1
        go_wp2_with fail
        go_loopg [6] 1 (fun gk kv wr => kv = .int .i64 0 ∧ w0 = wr)
        case atStart => exact ⟨rfl, rfl⟩
        case round =>
          obtain ⟨rfl, rfl⟩ := hrel
          go_wp2_with fail
          go_roundg (32 - i - 1)
          case measure => omega
          case rel => exact ⟨i + 1, by omega, by go_num, HPN.out, rfl⟩
    · obtain rfl : i = 32 := by omega
      have hii : ¬ ((32 : Nat) : Int) < 32 := by omega
      have HBT : Hid (bb = true) := by unfold Hid; rw [HBB.out]; exact rtlB_true HP.out
      go_wp2_with fail
      go_ret
      exact ⟨by rw [HBT.out]; rfl, HBEL.out⟩
end Go.Proofs.Ytlopdbhjdijlmaa

namespace Go.Proofs.Ytlopdbhjdijlmaa
open Go.ChangeShapes Go.WideShapes Go.ChangeAt Go.RowKit
set_option linter.unusedSimpArgs false
set_option linter.unusedVariables false

/-- A block of 256 booleans. -/
def Bools (w : World) (g : Nat) (f : Nat → Bool) : Prop :=
  ∃ cs : Array Value, w.heap[g]? = some (.cells cs 4 (0, 0)) ∧ cs.size = 256 ∧ ∀ i, i < 256 → cs[i]? = some (.bool (f i))

theorem Bools.cell {w : World} {g : Nat} {f : Nat → Bool} (h : Bools w g f) (i : Nat) (hi : i < 256) : w.cell? ⟨g, i, none⟩ = some (.bool (f i)) := by
  obtain ⟨cs, hg, _, hc⟩ := h
  rw [cell_of_row _ _ _ _ _ _ hg]
  exact hc i hi

theorem Bools.frozen {w : World} {g : Nat} {f : Nat → Bool} (h : Bools w g f) (i : Nat) : w.frozen? ⟨g, i, none⟩ = false := by
  obtain ⟨cs, hg, _⟩ := h
  exact frozen_of_row w g i cs _ hg

theorem Bools.mod {w w' : World} {g : Nat} {f : Nat → Bool} (h : Bools w g f) {D : Nat → Prop} (hm : Mod D w w') (hg : ¬ D g) : Bools w' g f := by
  obtain ⟨cs, hh, r⟩ := h
  exact ⟨cs, hm.heap hh hg, r⟩

theorem Bools.lt {w : World} {g : Nat} {f : Nat → Bool} (h : Bools w g f) : g < w.heap.size := by
  obtain ⟨cs, hh, r⟩ := h
  exact lt_of_block hh

theorem Bools.set {w : World} {g : Nat} {f : Nat → Bool} (h : Bools w g f) (i : Nat) (v : Bool) : Bools (w.setCell ⟨g, i, none⟩ (.bool v)) g (fun k => if k = i then v else f k) := by
  obtain ⟨cs, hh, h1, h4⟩ := h
  refine ⟨_, heap_setCell_same w g i cs _ _ hh, by simpa using h1, fun k hk => ?_⟩
  simp only
  by_cases e : k = i
  · subst e
    rw [if_pos rfl, Array.getElem?_setIfInBounds]
    simp only [if_true]
    rw [if_pos (by omega)]
  · rw [if_neg e, Array.getElem?_setIfInBounds]
    rw [if_neg (fun h => e h.symm)]
    exact h4 k hk

/-- The bits of four words, below a place. -/
def bitOf (a : Nat → Int) (b : Nat) : Bool := (a (b / 64)).toNat.testBit (b % 64)
def bitTo (a : Nat → Int) (t : Nat) (b : Nat) : Bool := if b < t then bitOf a b else false

theorem bitTo_succ (a : Nat → Int) (t : Nat) (v : Bool) (hv : v = bitOf a t) : (fun k => if k = t then v else bitTo a t k) = bitTo a (t + 1) := by
  funext k
  simp only [bitTo]
  by_cases e : k = t
  · subst e
    rw [if_pos rfl, if_pos (by omega), hv]
  · rw [if_neg e]
    by_cases h : k < t
    · rw [if_pos h, if_pos (by omega)]
    · rw [if_neg h, if_neg (by omega)]

theorem bools_eq {w : World} {g : Nat} {a : Nat → Int} (h : Bools w g (bitTo a (64 * 4))) : Bools w g (bitOf a) := by
  obtain ⟨cs, h1, h2, h3⟩ := h
  refine ⟨cs, h1, h2, fun i hi => ?_⟩
  rw [h3 i hi, bitTo, if_pos (by omega)]

theorem infoBool : (Try.prog.info? 4).map (fun i => (i.zero, i.size, i.bytes)) = some (some (.bool false), 1, 1) := by kernel_rfl

theorem made_bools (a : Nat → Int) {w1 : World} {base g : Nat} (h : w1.ownsRow base 4 1 (.slice (some ⟨g, 0, none⟩) 256 256) 256 (madeCells (Value.bool false).cells (256 * 1)).toList) : Bools w1 g (bitTo a 0) := by
  rcases h.2 with ⟨hv, _⟩ | ⟨g', cap', cur, hv, _, hg, _, _, hsz, htk⟩
  · simp at hv
  · simp only [Value.slice.injEq, Option.some.injEq, Addr.mk.injEq, and_true, true_and] at hv
    obtain ⟨rfl, rfl⟩ := hv
    refine ⟨cur, hg, by simpa using hsz, fun i hi => ?_⟩
    have e1 : cur.toList = (madeCells (Value.bool false).cells (256 * 1)).toList := by
      rw [← htk, List.take_of_length_le (by simp [hsz])]
    have e2 : (madeCells (Value.bool false).cells (256 * 1)).toList = List.replicate 256 (Value.bool false) := by
      rw [Nat.mul_one]
      exact toList_madeCells_one _ _
    rw [← Array.getElem?_toList, e1, e2, List.getElem?_replicate, if_pos hi]
    rfl

set_option maxRecDepth 20000 in
set_option maxHeartbeats 1000000 in
theorem bits_any {w : World} (a : Nat → Int) (ha : ∀ i, 0 ≤ a i ∧ a i < 18446744073709551616) :
    Calls Try.prog 106 #[.agg #[.int .u64 (a 0), .int .u64 (a 1), .int .u64 (a 2), .int .u64 (a 3)]] w fun e w' => ∃ g, e = .returned (.slice (some ⟨g, 0, none⟩) 256 256) ∧ w.heap.size ≤ g ∧ Bools w' g (bitOf a) ∧ Below w.heap.size w w' := by
  obtain ⟨i0, hi0, hz0, hz1, hz2⟩ := info_parts infoBool
  have HAA := Lib.hid ha
  clear ha
  go_enter Try.func106, Try.ntmps106
  go_wp2_with (at_make; refine wpList_make_full _ rfl _ _ 143 rfl w.heap.size 4 i0 (.bool false) 1 Try.underlying143 hi0 hz0 hz1 .i64 .i64 256 256 256 rfl rfl rfl rfl (by rw [hz2]; omega) (by unfold maxLen; omega) (by simp) ?_)
  intro w1 hown1 hgr1
  have hg1 : w.heap.size < w1.heap.size ∧ True := ⟨by have := hgr1.size; simp at this; omega, trivial⟩
  have hbl := made_bools a hown1
  obtain ⟨B, hB⟩ : ∃ B, B = w.heap.size + 1 := ⟨_, rfl⟩
  obtain ⟨A, hA⟩ : ∃ A, A = w.heap.size := ⟨_, rfl⟩
  have hb0 : Below w.heap.size w w1 := ((Below.refl _ _).alloc (Nat.le_refl _) _).grown hgr1 (by simp) (by intro k hk; cases hk)
  have hbox : ∀ j, w1.cell? ⟨A, j, none⟩ = (#[Value.int .u64 (a 0), .int .u64 (a 1), .int .u64 (a 2), .int .u64 (a 3)] : Array Value)[j]? := fun j => by
    rw [hA, World.cell?_of_block (hgr1.block _ (by simp) (by intro h; cases h))]
    exact boxed_new w _ _ _ j
  rw [← hB] at hbl
  have HW0 := Lib.hid hbl
  have HB0 := Lib.hid hb0
  have HX0 := Lib.hid hbox
  have hAB : A ≠ B := by omega
  have HA := Lib.hid hA
  have HB := Lib.hid hB
  rw [← hB, ← hA]
  clear hown1 hgr1 hbl hb0 hbox hA hB hg1
  go_wp2
  go_loopg [4] 4 (fun g i wr => ∃ k : Nat, k + g = 4 ∧ i = .int .i64 k ∧ Hid (Bools wr B (bitTo a (64 * k))) ∧ Hid (∀ j, wr.cell? ⟨A, j, none⟩ = (#[Value.int .u64 (a 0), .int .u64 (a 1), .int .u64 (a 2), .int .u64 (a 3)] : Array Value)[j]?) ∧ Hid (Below w.heap.size w wr))
  case atStart => exact ⟨0, by omega, rfl, HW0, HX0, HB0⟩
  case round =>
    obtain ⟨i, hi, rfl, HW, HX, HBL⟩ := hrel
    by_cases hlt : i < 4
    · have hai := HAA.out i
      obtain ⟨x, hx⟩ : ∃ x : Nat, a i = (x : Int) := ⟨(a i).toNat, by omega⟩
      have hc : wr.cell? ⟨A, i, none⟩ = some (.int .u64 (x : Int)) := by
        rw [← hx, HX.out i]
        rcases (show i = 0 ∨ i = 1 ∨ i = 2 ∨ i = 3 by omega) with rfl | rfl | rfl | rfl <;> rfl
      have hx2 : x < 18446744073709551616 := by omega
      have HXA : Hid (∀ k, k < 64 → bitOf a (64 * i + k) = x.testBit k) := by
        intro k hk
        unfold bitOf
        rw [show (64 * i + k) / 64 = i by omega, show (64 * i + k) % 64 = k by omega, hx, Int.toNat_natCast]
      have HX2 := Lib.hid hx2
      clear hai hx hx2
      go_wp2
      go_loopg [5, 6] 64 (fun g n kk wr => ∃ k : Nat, k + g = 64 ∧ n = .int .u64 ((x / 2 ^ k : Nat) : Int) ∧ kk = .int .i64 k ∧ Hid (Bools wr B (bitTo a (64 * i + k))) ∧ Hid (∀ j, wr.cell? ⟨A, j, none⟩ = (#[Value.int .u64 (a 0), .int .u64 (a 1), .int .u64 (a 2), .int .u64 (a 3)] : Array Value)[j]?) ∧ Hid (Below w.heap.size w wr))
      case atStart => exact ⟨0, by omega, by simp, rfl, HW, HX, HBL⟩
      case round =>
        obtain ⟨k, hk, rfl, rfl, HW, HX, HBL⟩ := hrel
        by_cases hlt2 : k < 64
        · have hq : x / 2 ^ k < 18446744073709551616 := Nat.lt_of_le_of_lt (Nat.div_le_self _ _) HX2.out
          have hq2 : x / 2 ^ (k + 1) = x / 2 ^ k / 2 := by rw [Nat.pow_succ, Nat.div_div_eq_div_mul]
          have hbit : bitOf a (64 * i + k) = decide (x / 2 ^ k % 2 = 1) := by rw [HXA.out k hlt2, Nat.testBit_eq_decide_div_mod_eq]
          have hd := HW.out.cell (64 * i + k) (by omega)
          have hf := HW.out.frozen (64 * i + k)
          generalize x / 2 ^ k = q at hq hq2 hbit
          have HQ2 := Lib.hid hq2
          have HBIT := Lib.hid hbit
          clear hq2 hbit
          go_wp2
          go_roundg (64 - (k + 1))
          case measure => omega
          case rel =>
            refine ⟨k + 1, by omega, by rw [HQ2.out]; simp, (by simp), ?_, ?_, ?_⟩
            · have hv : (((q : Int) % 2 == 1) : Bool) = bitOf a (64 * i + k) := by
                rw [HBIT.out, Bool.eq_iff_iff]; simp; omega
              have := HW.out.set (64 * i + k) ((q : Int) % 2 == 1)
              rw [bitTo_succ a (64 * i + k) _ hv] at this
              exact this
            · intro j; rw [World.cell?_of_block (Below.heap_setCell _ _ _ _ (by simpa using hAB))]; exact HX.out j
            · exact HBL.out.setCell (by have := HB.out; show _ ≤ B; omega) _
        · obtain rfl : k = 64 := by omega
          go_wp2
          go_roundg (4 - (i + 1))
          case measure => omega
          case rel => exact ⟨i + 1, by omega, (by simp), by rw [show 64 * (i + 1) = 64 * i + 64 by omega]; exact HW, HX, HBL⟩
    · obtain rfl : i = 4 := by omega
      go_wp2
      go_ret
      exact ⟨B, rfl, by have := HB.out; omega, bools_eq HW.out, HBL.out⟩

end Go.Proofs.Ytlopdbhjdijlmaa

namespace Go.Proofs.Ytlopdbhjdijlmaa
open Go.ChangeShapes Go.WideShapes Go.ChangeAt Go.RowKit
set_option linter.unusedSimpArgs false
set_option linter.unusedVariables false

/-- How often a block is in the first k inodes: as a file's, or as its own. -/
def metR (t : Nat → Ino) (xs : Nat → List Nat) (b : Nat) : Nat → Nat
  | 0 => 0
  | k + 1 => metR t xs b k + cntB (t k).bl (b : Int) 13 + cntX (xs k) b (xs k).length
theorem metR_le {t : Nat → Ino} {xs : Nat → List Nat} (h : ∀ k, k < 32 → (xs k).length ≤ 40) (b : Nat) : ∀ k, k ≤ 32 → metR t xs b k ≤ 53 * k
  | 0, _ => Nat.le_refl _
  | k + 1, hk => by
    have h1 := metR_le (t := t) h b k (by omega)
    have h2 := cntB_le (t k).bl (b : Int) 13
    have h3 := cntX_le (xs k) b (xs k).length
    have h4 := h k (by omega)
    unfold metR
    omega
def RBlP (S : Sh) (t : Nat → Ino) (xs : Nat → List Nat) (n : Nat) : Prop := ∀ b, 1 ≤ b → b < n → ¬ metR t xs b 32 > 1 ∧ decide (metR t xs b 32 = 1) = bitB S b
open Classical in
noncomputable def rblB (S : Sh) (t : Nat → Ino) (xs : Nat → List Nat) : Bool := decide (RBlP S t xs 256 ∧ bitB S 0 = false)
open Classical in
theorem rblB_true {S : Sh} {t : Nat → Ino} {xs : Nat → List Nat} (h : RBlP S t xs 256 ∧ bitB S 0 = false) : rblB S t xs = true := by unfold rblB; exact decide_eq_true h
open Classical in
theorem rblB_false {S : Sh} {t : Nat → Ino} {xs : Nat → List Nat} (h : ¬ (RBlP S t xs 256 ∧ bitB S 0 = false)) : rblB S t xs = false := by unfold rblB; exact decide_eq_false h
/-- Thirty-two slices in a block of their own. -/
def ownL (ov : Nat → Value) : List Value := (List.range 32).map ov
theorem ownL_len (ov : Nat → Value) : (ownL ov).length = 32 := by simp [ownL]
theorem ownL_get (ov : Nat → Value) (i : Nat) (hi : i < 32) : (ownL ov)[i]? = some (ov i) := by
  unfold ownL
  rw [List.getElem?_map, List.getElem?_range hi]
  rfl
def OwnB (w : World) (B : Nat) (ov : Nat → Value) : Prop := w.heap[B]? = some (.cells (ownL ov).toArray 77 (0, 0))
theorem OwnB.cell {w : World} {B : Nat} {ov : Nat → Value} (h : OwnB w B ov) (i : Nat) (hi : i < 32) : w.cell? ⟨B, i, none⟩ = some (ov i) := by
  rw [cell_of_row _ _ _ _ _ _ h, List.getElem?_toArray]
  exact ownL_get ov i hi
theorem OwnB.mod {w w' : World} {B : Nat} {ov : Nat → Value} (h : OwnB w B ov) {D : Nat → Prop} (hm : Mod D w w') (hd : ¬ D B) : OwnB w' B ov := hm.heap h hd
theorem OwnB.frozen {w : World} {B : Nat} {ov : Nat → Value} (h : OwnB w B ov) (k : Nat) : w.frozen? ⟨B, k, none⟩ = false := frozen_of_row _ _ _ _ _ h
theorem OwnB.all {w : World} {B : Nat} {ov : Nat → Value} (h : OwnB w B ov) : w.rangeAt B 0 (ownL ov) := by
  intro j v hj
  rw [Nat.zero_add, cell_of_row _ _ _ _ _ _ h]
  simpa using hj
/-- Own blocks, as slices. -/
structure HoldsX (w : World) (ov : Nat → Value) (xs : Nat → List Nat) : Prop where
  holds : ∀ k, k < 32 → HoldsN w (ov k) (xs k)
  len : ∀ k, k < 32 → (xs k).length ≤ 40
  lt : ∀ k, k < 32 → ∀ b ∈ xs k, b < 256

set_option maxRecDepth 20000 in
set_option maxHeartbeats 4000000 in
theorem ref_blocks10 {w : World} {g c : Nat} {S : Sh} {t : Nat → Ino} {ev ov : Nat → Value} {xs : Nat → List Nat} (hok : S.Ok) (hw : WordsH w g S) (hc : 3128 ≤ c ∧ c ≤ maxLen) (hl : Len13 t) (hz : SizT t) (hx : HoldsX w ov xs) :
    Calls Try.prog 76 #[.slice (some ⟨g, 0, none⟩) 3128 c, .agg (tabL t ev).toArray, .agg (ownL ov).toArray] w fun e w' => e = .returned (.bool (rblB S t xs)) ∧ Below w.heap.size w w' := by
  have hb := TabB.new hl (ev := ev) w
  have HT : Hid (TabB (((w.alloc (.cells (tabL t ev).toArray 44)).alloc (.cells (ownL ov).toArray 77)).alloc (.cells Try.zeroCells140 140)) w.heap.size t ev) := hb.mod (((Mod.refl nob _).alloc _).alloc _) (fun h => h)
  have HO : Hid (OwnB (((w.alloc (.cells (tabL t ev).toArray 44)).alloc (.cells (ownL ov).toArray 77)).alloc (.cells Try.zeroCells140 140)) (w.heap.size + 1) ov) := by
    have : OwnB ((w.alloc (.cells (tabL t ev).toArray 44)).alloc (.cells (ownL ov).toArray 77)) (w.alloc (.cells (tabL t ev).toArray 44)).heap.size ov := heap_alloc_new _ _
    rw [show (w.alloc (.cells (tabL t ev).toArray 44)).heap.size = w.heap.size + 1 by simp] at this
    exact this.mod ((Mod.refl nob _).alloc _) (fun h => h)
  have HC : Hid (IntsB (((w.alloc (.cells (tabL t ev).toArray 44)).alloc (.cells (ownL ov).toArray 77)).alloc (.cells Try.zeroCells140 140)) (w.heap.size + 2) (fun _ => 0)) := by
    have := IntsB.new ((w.alloc (.cells (tabL t ev).toArray 44)).alloc (.cells (ownL ov).toArray 77))
    rw [show ((w.alloc (.cells (tabL t ev).toArray 44)).alloc (.cells (ownL ov).toArray 77)).heap.size = w.heap.size + 2 by simp] at this
    exact this
  have hm0 : Mod nob w (((w.alloc (.cells (tabL t ev).toArray 44)).alloc (.cells (ownL ov).toArray 77)).alloc (.cells Try.zeroCells140 140)) := (((Mod.refl nob w).alloc _).alloc _).alloc _
  have HM0 := Lib.hid hm0
  have HOK := Lib.hid hok
  have HSZ := Lib.hid hz
  have HW := Lib.hid hw
  have HX := Lib.hid hx
  have HLE : Hid (∀ b k, k ≤ 32 → metR t xs b k ≤ 1696) := fun b k hk => by have := metR_le (t := t) hx.len b k hk; omega
  obtain ⟨bb, hbb⟩ : ∃ b, b = rblB S t xs := ⟨_, rfl⟩
  rw [← hbb]
  have HBB := Lib.hid hbb
  obtain ⟨hc1, hc2⟩ := hc
  unfold maxLen at hc2
  clear hb hm0 hok hw hl hz hbb hx
  go_enter Try.func76, Try.ntmps76
  go_upto_region 2 with (fail)
  generalize ((w.alloc (.cells (tabL t ev).toArray 44)).alloc (.cells (ownL ov).toArray 77)).alloc (.cells Try.zeroCells140 140) = w1 at *
  obtain ⟨X, hX⟩ : ∃ X, X = w.heap.size := ⟨_, rfl⟩
  rw [← hX] at HT HO HC ⊢
  have HXX := Lib.hid hX
  clear hX
  go_wp2_with fail
  go_loopg [8] 32 (fun gk iv wr => ∃ (k : Nat) (d : Nat → Nat), k + gk = 32 ∧ iv = .int .i64 (k : Nat) ∧ Hid (∀ b, b < 256 → d b = metR t xs b k) ∧ Hid (IntsB wr (X + 2) d) ∧ Hid (Mod (fun q => q = X + 2) w1 wr))
  case atStart => exact ⟨0, _, by omega, rfl, (fun b _ => rfl), HC.out, Mod.refl _ _⟩
  case round =>
    obtain ⟨k, d, hk, rfl, HD, HI, HM⟩ := hrel
    clear HC
    have hk0 : (0 : Int) ≤ (k : Int) := Int.natCast_nonneg _
    by_cases hlt : k < 32
    · have hki : (k : Int) < 32 := by omega
      have hblk := (HSZ.out k hlt).2
      have HBL := Lib.hid hblk
      have hle2 := fun b => HLE.out b k (by omega)
      have HL2 := Lib.hid hle2
      clear hblk hle2
      go_wp2_with fail
      go_loopg [9] 13 (fun gk jv wr => ∃ (j : Nat) (d : Nat → Nat), j + gk = 13 ∧ jv = .int .i64 (j : Nat) ∧ Hid (∀ b : Nat, b < 256 → d b = metR t xs b k + cntB (t k).bl (b : Int) j) ∧ Hid (IntsB wr (X + 2) d) ∧ Hid (Mod (fun q => q = X + 2) w1 wr))
      case atStart => exact ⟨0, d, by omega, rfl, (fun b hb => HD.out b hb), HI.out, HM.out⟩
      case round =>
        obtain ⟨j, d2, hj, rfl, HD2, HI2, HM2⟩ := hrel
        clear HD HI HM
        have hj0 : (0 : Int) ≤ (j : Int) := Int.natCast_nonneg _
        by_cases hltj : j < 13
        · have hji : (j : Int) < 13 := by omega
          obtain ⟨q, hq, hq256⟩ := HBL.out j hltj
          have bc := (HT.out.mod HM2.out (by show ¬ X = X + 2; omega)).bln k hlt j hltj
          rw [hq] at bc
          have cd := HI2.out.cell q hq256
          have fd := HI2.out.frozen q
          have hd1 := HD2.out q hq256
          have hd2 := HL2.out q
          have hd3 := cntB_le (t k).bl (q : Int) j
          have HQ := Lib.hid hq
          obtain ⟨dv, hdv⟩ : ∃ dv, dv = d2 q := ⟨_, rfl⟩
          rw [← hdv] at cd hd1
          have hdv2 : dv ≤ 2000 := by omega
          have HDV := Lib.hid hd1
          have hqi : (q : Int) < 256 := by omega
          have hq0 : (0 : Int) ≤ (q : Int) := Int.natCast_nonneg _
          have HDN := Lib.hid (HI2.out.set q (dv + 1))
          have HMS : Hid (Mod (fun y => y = X + 2) w1 (wr.setCell ⟨X + 2, q, none⟩ (.int .i64 ((dv + 1 : Nat) : Int)))) := HM2.out.setCell (a := ⟨X + 2, q, none⟩) (.inl rfl) _
          have HDD : Hid (∀ b : Nat, b < 256 → (fun y => if y = q then dv + 1 else d2 y) b = metR t xs b k + cntB (t k).bl (b : Int) (j + 1)) := fun b hb => by
            have h1 := HD2.out b hb
            have h2 : cntB (t k).bl (b : Int) (j + 1) = cntB (t k).bl (b : Int) j + if (t k).bl.getD j 0 = (b : Int) then 1 else 0 := rfl
            rw [h2, HQ.out]
            show (if b = q then dv + 1 else d2 b) = _
            by_cases e : b = q
            · subst e
              rw [if_pos rfl, if_pos rfl]
              have := HDV.out
              omega
            · rw [if_neg e, if_neg (by omega)]
              omega
          have hwr : (dv : Int) + 1 = ((dv + 1 : Nat) : Int) := by omega
          have HWR := Lib.hid hwr
          clear hq hd1 hd2 hd3 hdv hwr
          go_upto_region 8 with (fail)
          go_upto_region 7 with (fail)
          first
            | rw [HWR.out]
            | skip
          generalize wr.setCell ⟨X + 2, q, none⟩ (.int .i64 ((dv + 1 : Nat) : Int)) = w9 at *
          clear cd fd bc
          go_wp2_with fail
          go_roundg (gk - 1)
          case measure => omega
          case rel => exact ⟨j + 1, _, by omega, by go_num, HDD.out, HDN.out, HMS.out⟩
        · obtain rfl : j = 13 := by omega
          have hji : ¬ ((13 : Nat) : Int) < 13 := by omega
          have HL3 : Hid (∀ b : Nat, b < 256 → d2 b ≤ 1709) := fun b hb => by have h1 := HD2.out b hb; have h2 := HL2.out b; have h3 := cntB_le (t k).bl (b : Int) 13; omega
          obtain ⟨L, hL⟩ : ∃ L, L = (xs k).length := ⟨_, rfl⟩
          have hL40 : L ≤ 40 := by rw [hL]; exact HX.out.len k hlt
          have HLL := Lib.hid hL
          obtain ⟨ao, oc, hov, hcap, hcm, -, -⟩ := HX.out.holds k hlt
          rw [← hL] at hov hcap
          unfold maxLen at hcm
          have HOV := Lib.hid hov
          have HHX : Hid (∀ wx, Mod (fun q => q = X + 2) w1 wx → wx.cell? ⟨X + 1, k, none⟩ = some (.slice ao L oc) ∧ ∀ m, m < L → ∃ g2 o2, ao = some ⟨g2, o2, none⟩ ∧ wx.cell? ⟨g2, o2 + m, none⟩ = some (.int .i64 ((xs k).getD m 0 : Nat))) := fun wx hm => by
            refine ⟨?_, fun m hm2 => ?_⟩
            · rw [(HO.out.mod hm (by show ¬ X + 1 = X + 2; omega)).cell k hlt, HOV.out]
            · obtain ⟨ao2, oc2, e, -, -, -, hcl⟩ := HX.out.holds k hlt
              rw [HOV.out, ← HLL.out] at e
              simp only [Value.slice.injEq] at e
              obtain ⟨rfl, -, rfl⟩ := e
              obtain ⟨g2, o2, h1, h2⟩ := hcl m (by rw [← HLL.out]; exact hm2)
              refine ⟨g2, o2, h1, hm.cell (HM0.out.cell h2 (fun h => h)) (fun e => ?_)⟩
              have e' : g2 = X + 2 := e
              have h3 := World.block_lt_of_cell? w _ h2
              have h4 := HXX.out
              simp only at h3
              omega
          clear hL hov
          go_wp2_with fail
          go_loopg [10] L (fun gk jv wr => ∃ (j : Nat) (d : Nat → Nat), j + gk = L ∧ jv = .int .i64 (j : Nat) ∧ Hid (∀ b : Nat, b < 256 → d b = metR t xs b k + cntB (t k).bl (b : Int) 13 + cntX (xs k) b j) ∧ Hid (IntsB wr (X + 2) d) ∧ Hid (Mod (fun q => q = X + 2) w1 wr))
          case atStart => exact ⟨0, d2, by omega, rfl, (fun b hb => HD2.out b hb), HI2.out, HM2.out⟩
          case round =>
            obtain ⟨j, d3, hj, rfl, HD3, HI3, HM3⟩ := hrel
            have hj0 : (0 : Int) ≤ (j : Int) := Int.natCast_nonneg _
            have oc1 := (HHX.out wr HM3.out).1
            by_cases hltj : j < L
            · have hji : (j : Int) < (L : Int) := by omega
              obtain ⟨g2, o2, rfl, e1⟩ := (HHX.out wr HM3.out).2 j hltj
              have hmem : (xs k).getD j 0 ∈ xs k := by
                rw [List.getD_eq_getElem?_getD, List.getElem?_eq_getElem (by rw [← HLL.out]; exact hltj)]
                exact List.getElem_mem _
              have hq256 := HX.out.lt k hlt _ hmem
              obtain ⟨q, hq⟩ : ∃ q, q = (xs k).getD j 0 := ⟨_, rfl⟩
              rw [← hq] at e1 hq256
              have cd := HI3.out.cell q hq256
              have fd := HI3.out.frozen q
              have hd1 := HD3.out q hq256
              have hd2 := HL3.out q hq256
              rw [HD2.out q hq256] at hd2
              have hd3 := cntX_le (xs k) q j
              have HQ := Lib.hid hq
              obtain ⟨dv, hdv⟩ : ∃ dv, dv = d3 q := ⟨_, rfl⟩
              rw [← hdv] at cd hd1
              have hdv2 : dv ≤ 2000 := by omega
              have HDV := Lib.hid hd1
              have hqi : (q : Int) < 256 := by omega
              have hq0 : (0 : Int) ≤ (q : Int) := Int.natCast_nonneg _
              have HDN := Lib.hid (HI3.out.set q (dv + 1))
              have HMS : Hid (Mod (fun y => y = X + 2) w1 (wr.setCell ⟨X + 2, q, none⟩ (.int .i64 ((dv + 1 : Nat) : Int)))) := HM3.out.setCell (a := ⟨X + 2, q, none⟩) (.inl rfl) _
              have HDD : Hid (∀ b : Nat, b < 256 → (fun y => if y = q then dv + 1 else d3 y) b = metR t xs b k + cntB (t k).bl (b : Int) 13 + cntX (xs k) b (j + 1)) := fun b hb => by
                have h1 := HD3.out b hb
                have h2 : cntX (xs k) b (j + 1) = cntX (xs k) b j + if (xs k).getD j 0 = b then 1 else 0 := rfl
                rw [h2, ← HQ.out]
                show (if b = q then dv + 1 else d3 b) = _
                by_cases e : b = q
                · subst e
                  rw [if_pos rfl, if_pos rfl]
                  have := HDV.out
                  omega
                · rw [if_neg e, if_neg (by omega)]
                  omega
              have hwr : (dv : Int) + 1 = ((dv + 1 : Nat) : Int) := by omega
              have HWR := Lib.hid hwr
              clear hmem hq hd1 hd2 hd3 hdv hwr
              go_upto_region 12 with (fail)
              go_upto_region 11 with (fail)
              first
                | rw [HWR.out]
                | skip
              generalize wr.setCell ⟨X + 2, q, none⟩ (.int .i64 ((dv + 1 : Nat) : Int)) = w9 at *
              clear cd fd e1
              go_wp2_with fail
              go_roundg (gk - 1)
              case measure => omega
              case rel => exact ⟨j + 1, _, by omega, by go_num, HDD.out, HDN.out, HMS.out⟩
            · obtain rfl : j = L := by omega
              have hji : ¬ (j : Int) < (j : Int) := by omega
              have HDN : Hid (∀ b, b < 256 → d3 b = metR t xs b (k + 1)) := fun b hb => by rw [HD3.out b hb, HLL.out]; rfl
              go_wp2_with fail
              go_roundg (32 - k - 1)
              case measure => omega
              case rel => exact ⟨k + 1, d3, by omega, by go_num, HDN.out, HI3.out, HM3.out⟩
    · obtain rfl : k = 32 := by omega
      have hki : ¬ ((32 : Nat) : Int) < 32 := by omega
      have hmn : Mod nob w wr := HM0.out.trans (HM.out.mono (fun b hb e => .inr ⟨by have h1 := HXX.out; have e' : b = X + 2 := e; omega, hb⟩))
      have HMN := Lib.hid hmn
      have HWR := Lib.hid (HW.out.still hmn (fun h => h))
      obtain ⟨ct, hct⟩ : ∃ ct : Nat → Nat, ct = fun b => metR t xs b 32 := ⟨_, rfl⟩
      have HC2 : Hid (IntsB wr (X + 2) ct) := HI.out.congr (fun b hb => by rw [HD.out b hb, hct])
      have HCT : Hid (∀ b, ct b = metR t xs b 32) := fun b => by rw [hct]
      have HCE : Hid (∀ b, ct b ≤ 1696) := fun b => by rw [hct]; exact HLE.out b 32 (Nat.le_refl _)
      clear hmn hct HI HD HM HLE HM0
      have w16 := HWR.out 816 (by omega)
      have w17 := HWR.out 817 (by omega)
      have w18 := HWR.out 818 (by omega)
      have w19 := HWR.out 819 (by omega)
      obtain ⟨a, ha⟩ : ∃ a : Nat → Int, a = fun i => S.get ((816 + i : Nat) : Int) := ⟨_, rfl⟩
      have HBI : Hid (∀ wx : World, Calls Try.prog 106 #[.agg #[.int .u64 (a 0), .int .u64 (a 1), .int .u64 (a 2), .int .u64 (a 3)]] wx fun e w' => ∃ g, e = .returned (.slice (some ⟨g, 0, none⟩) 256 256) ∧ wx.heap.size ≤ g ∧ Bools w' g (bitOf a) ∧ Below wx.heap.size wx w') := fun wx => bits_any a (fun i => by rw [ha]; exact HOK.out.get _)
      have HAB : Hid (∀ b, b < 256 → bitOf a b = bitB S b) := fun b hb => by
        unfold bitOf bitB
        rw [ha]
        show (S.get ((816 + b / 64 : Nat) : Int)).toNat.testBit _ = _
        rw [get_nat _ (by omega)]
      rw [show S.get ((816 : Nat) : Int) = a 0 by rw [ha]] at w16
      rw [show S.get ((817 : Nat) : Int) = a 1 by rw [ha]] at w17
      rw [show S.get ((818 : Nat) : Int) = a 2 by rw [ha]] at w18
      rw [show S.get ((819 : Nat) : Int) = a 3 by rw [ha]] at w19
      obtain ⟨a0, ha0⟩ : ∃ x, x = a 0 := ⟨_, rfl⟩
      obtain ⟨a1, ha1⟩ : ∃ x, x = a 1 := ⟨_, rfl⟩
      obtain ⟨a2, ha2⟩ : ∃ x, x = a 2 := ⟨_, rfl⟩
      obtain ⟨a3, ha3⟩ : ∃ x, x = a 3 := ⟨_, rfl⟩
      rw [← ha0, ← ha1, ← ha2, ← ha3] at HBI
      rw [← ha0] at w16
      rw [← ha1] at w17
      rw [← ha2] at w18
      rw [← ha3] at w19
      clear ha ha0 ha1 ha2 ha3
      go_upto_region 13 with (fail)
      go_still_tail 13, (by kernel_rfl)
      go_wp2_with (go_at_call 106; (first | refine (HBI.out _).mono ?_ | (rw [← Array.toArray_toList]; refine (HBI.out _).mono ?_)); (rintro e w9 ⟨gb, rfl, hgb, hbo, hb9⟩); (have HBO := Lib.hid hbo); (have HM9 : Hid (Mod nob wr w9) := (Mod.refl nob wr).drew.step (mod_of_below hb9) (fun _ h => h)); (have HGB := Lib.hid hgb); clear hbo hb9 hgb)
      have HC9 : Hid (IntsB w9 (X + 2) ct) := HC2.out.mod HM9.out (fun h => h)
      have HMW : Hid (Mod nob w w9) := HMN.out.step HM9.out (fun _ h => h)
      clear HC2 HMN HM9 HWR w16 w17 w18 w19
      go_loopg [12] 255 (fun gk iv wr => ∃ k : Nat, k + gk = 256 ∧ 1 ≤ k ∧ iv = .int .i64 (k : Nat) ∧ Hid (RBlP S t xs k) ∧ Hid (Mod nob w9 wr))
      case atStart => exact ⟨1, by omega, by omega, rfl, (fun j h1 h2 => by omega), Mod.refl _ _⟩
      case round =>
        obtain ⟨b, hb, hb1, rfl, HP, HMB⟩ := hrel
        have hb0 : (0 : Int) ≤ (b : Int) := Int.natCast_nonneg _
        by_cases hltb : b < 256
        · have hbi : (b : Int) < 256 := by omega
          have cd := (HC9.out.mod HMB.out (fun h => h)).cell b hltb
          have ub := (HBO.out.mod HMB.out (fun h => h)).cell b hltb
          rw [HAB.out b hltb] at ub
          have hcle := HCE.out b
          have HCB := Lib.hid (HCT.out b)
          obtain ⟨cv, hcv⟩ : ∃ c, c = ct b := ⟨_, rfl⟩
          rw [← hcv] at cd hcle HCB
          obtain ⟨u, hu⟩ : ∃ u, u = bitB S b := ⟨_, rfl⟩
          rw [← hu] at ub
          have HUE := Lib.hid hu
          clear hcv hu
          by_cases h1 : (1 : Int) < (cv : Int)
          · have HBF : Hid (bb = false) := by
              unfold Hid
              rw [HBB.out]
              refine rblB_false (fun hp => ?_)
              exact (hp.1 b hb1 hltb).1 (by rw [← HCB.out]; omega)
            go_wp2_with fail
            go_quiet (fail)
            go_wp2_with fail
            go_ret
            exact ⟨by rw [HBF.out]; rfl, nob_mod_below ((HMW.out.step HMB.out (fun _ h => h)).drewN _)⟩
          · have hd1 : decide ((1 : Int) < (cv : Int)) = false := decide_eq_false h1
            by_cases h2 : (cv : Int) = 1
            · have hb2 : ((cv : Int) == 1) = true := by simpa using h2
              have hn2 : cv = 1 := by omega
              cases u with
              | true =>
                have HPN : Hid (RBlP S t xs (b + 1)) := fun j hj1 hj => by
                  by_cases e : j = b
                  · subst e
                    refine ⟨by rw [← HCB.out]; omega, ?_⟩
                    rw [← HCB.out, ← HUE.out]
                    exact decide_eq_true hn2
                  · exact HP.out j hj1 (by omega)
                go_wp2_with fail
                go_quiet (fail)
                go_wp2_with fail
                go_roundg (gk - 1)
                case measure => omega
                case rel => exact ⟨b + 1, by omega, by omega, by go_num, HPN.out, HMB.out.drewN _⟩
              | false =>
                have HBF : Hid (bb = false) := by
                  unfold Hid
                  rw [HBB.out]
                  refine rblB_false (fun hp => ?_)
                  have h3 := (hp.1 b hb1 hltb).2
                  rw [← HCB.out, ← HUE.out] at h3
                  exact absurd hn2 (of_decide_eq_false h3)
                go_wp2_with fail
                go_quiet (fail)
                go_wp2_with fail
                go_ret
                exact ⟨by rw [HBF.out]; rfl, nob_mod_below ((HMW.out.step HMB.out (fun _ h => h)).drewN _)⟩
            · have hb2 : ((cv : Int) == 1) = false := by simpa using h2
              have hn2 : ¬ cv = 1 := by omega
              cases u with
              | true =>
                have HBF : Hid (bb = false) := by
                  unfold Hid
                  rw [HBB.out]
                  refine rblB_false (fun hp => ?_)
                  have h3 := (hp.1 b hb1 hltb).2
                  rw [← HCB.out, ← HUE.out] at h3
                  exact absurd (of_decide_eq_true h3) hn2
                go_wp2_with fail
                go_quiet (fail)
                go_wp2_with fail
                go_ret
                exact ⟨by rw [HBF.out]; rfl, nob_mod_below ((HMW.out.step HMB.out (fun _ h => h)).drewN _)⟩
              | false =>
                have HPN : Hid (RBlP S t xs (b + 1)) := fun j hj1 hj => by
                  by_cases e : j = b
                  · subst e
                    refine ⟨by rw [← HCB.out]; omega, ?_⟩
                    rw [← HCB.out, ← HUE.out]
                    exact decide_eq_false hn2
                  · exact HP.out j hj1 (by omega)
                go_wp2_with fail
                go_quiet (fail)
                go_wp2_with fail
                go_roundg (gk - 1)
                case measure => omega
                case rel => exact ⟨b + 1, by omega, by omega, by go_num, HPN.out, HMB.out.drewN _⟩
        · obtain rfl : b = 256 := by omega
          have hbi : ¬ ((256 : Nat) : Int) < 256 := by omega
          have ub := (HBO.out.mod HMB.out (fun h => h)).cell 0 (by omega)
          rw [HAB.out 0 (by omega)] at ub
          obtain ⟨u, hu⟩ : ∃ u, u = bitB S 0 := ⟨_, rfl⟩
          rw [← hu] at ub
          have HUE := Lib.hid hu
          clear hu
          cases u with
          | false =>
            have HBT : Hid (bb = true) := by unfold Hid; rw [HBB.out]; exact rblB_true ⟨HP.out, HUE.out.symm⟩
            go_wp2_with fail
            go_ret
            exact ⟨by rw [HBT.out]; rfl, nob_mod_below (HMW.out.step HMB.out (fun _ h => h))⟩
          | true =>
            have HBF : Hid (bb = false) := by
              unfold Hid
              rw [HBB.out]
              refine rblB_false (fun hp => ?_)
              have h3 := hp.2
              rw [← HUE.out] at h3
              cases h3
            go_wp2_with fail
            go_ret
            exact ⟨by rw [HBF.out]; rfl, nob_mod_below (HMW.out.step HMB.out (fun _ h => h))⟩
end Go.Proofs.Ytlopdbhjdijlmaa

namespace Go.Proofs.Ytlopdbhjdijlmaa
open Go.ChangeShapes Go.WideShapes Go.ChangeAt Go.RowKit
set_option linter.unusedSimpArgs false
set_option linter.unusedVariables false

def EnT (t : Nat → Ino) (k j : Nat) : Prop := ∀ q, q < j → (t ((t k).ents.getD q default).ino.toNat).format ≠ 0
def EnP (t : Nat → Ino) (n : Nat) : Prop := ∀ k, k < n → EnT t k (t k).ents.length
def LkT (t : Nat → Ino) (i : Nat) : Prop := ((t i).kind = 2 → (t i).links = 1 ∧ (i = 0 → cntT t i 32 = 0) ∧ (0 < i → cntT t i 32 = 1)) ∧ ((t i).kind = 1 → 1 ≤ cntT t i 32 ∧ ((cntT t i 32 : Nat) : Int) = (t i).links)
def LkP (t : Nat → Ino) (n : Nat) : Prop := ∀ i, i < n → LkT t i
def ReT (t : Nat → Ino) (n : Nat) : Prop := ∀ i : Nat, i < n → 0 < (t i).format → belB t 0 (i : Int) = true
theorem TabB.lnk' {w : World} {B : Nat} {f : Nat → Ino} {ev : Nat → Value} (h : TabB w B f ev) (i : Nat) (hi : i < 32) : w.cell? ⟨B, i * 18 + 2, none⟩ = some (.int .i64 (f i).links) := h.range i hi 2 (.int .i64 (f i).links) rfl
open Classical in
/-- The seven things that the reference looks at. -/
noncomputable def wrgB (S : Sh) (t : Nat → Ino) (xs : Nat → List Nat) (good : Bool) : Nat → Bool
  | 0 => superB S
  | 1 => good
  | 2 => decide ((t 0).kind = 2 ∧ EnP t 32)
  | 3 => decide (LkP t 32)
  | 4 => decide (ReT t 32)
  | 5 => rblB S t xs
  | _ => rtlB S t
section
variable {S : Sh} {t : Nat → Ino} {xs : Nat → List Nat} {good : Bool}
open Classical in
theorem wrg2T (h : (t 0).kind = 2 ∧ EnP t 32) : wrgB S t xs good 2 = true := decide_eq_true h
open Classical in
theorem wrg2F (h : ¬ ((t 0).kind = 2 ∧ EnP t 32)) : wrgB S t xs good 2 = false := decide_eq_false h
open Classical in
theorem wrg3T (h : LkP t 32) : wrgB S t xs good 3 = true := decide_eq_true h
open Classical in
theorem wrg3F (h : ¬ LkP t 32) : wrgB S t xs good 3 = false := decide_eq_false h
open Classical in
theorem wrg4T (h : ReT t 32) : wrgB S t xs good 4 = true := decide_eq_true h
open Classical in
theorem wrg4F (h : ¬ ReT t 32) : wrgB S t xs good 4 = false := decide_eq_false h
end
/-- The number of the first that isn't so, or 0. -/
def WrgP (b : Nat → Bool) (k : Nat) : Prop := (k = 0 ∧ ∀ j, j < 7 → b j = true) ∨ ∃ i, k = i + 1 ∧ i < 7 ∧ b i = false ∧ ∀ j, j < i → b j = true
/-- A table of inodes that are right, or not there. -/
structure TabT (w : World) (t : Nat → Ino) (ev : Nat → Value) : Prop where
  right : RightT t
  ents : EntsIn t
  n24 : ∀ k, k < 32 → (t k).ents.length ≤ 24
  holds : HoldsT w t ev
  siz : SizT t

set_option maxRecDepth 20000 in
set_option maxHeartbeats 4000000 in
theorem ref_wrong10 {w : World} {g c : Nat} {S : Sh} {t : Nat → Ino} {ev ov : Nat → Value} {xs : Nat → List Nat} (good : Bool) (hok : S.Ok) (hw : WordsH w g S) (hc : 3128 ≤ c ∧ c ≤ maxLen) (ht : TabT w t ev) (hx : HoldsX w ov xs) :
    Calls Try.prog 39 #[.slice (some ⟨g, 0, none⟩) 3128 c, .agg (tabL t ev).toArray, .agg (ownL ov).toArray, .bool good] w fun e w' => (∃ k : Nat, e = .returned (.int .i64 (k : Nat)) ∧ WrgP (wrgB S t xs good) k) ∧ Below w.heap.size w w' := by
  have hl := ht.right.len
  have hb := TabB.new hl (ev := ev) w
  have HT : Hid (TabB ((w.alloc (.cells (tabL t ev).toArray 44)).alloc (.cells (ownL ov).toArray 77)) w.heap.size t ev) := hb.mod ((Mod.refl nob _).alloc _) (fun h => h)
  have HO : Hid (OwnB ((w.alloc (.cells (tabL t ev).toArray 44)).alloc (.cells (ownL ov).toArray 77)) (w.heap.size + 1) ov) := by
    have : OwnB ((w.alloc (.cells (tabL t ev).toArray 44)).alloc (.cells (ownL ov).toArray 77)) (w.alloc (.cells (tabL t ev).toArray 44)).heap.size ov := heap_alloc_new _ _
    rw [show (w.alloc (.cells (tabL t ev).toArray 44)).heap.size = w.heap.size + 1 by simp] at this
    exact this
  have hm0 : Mod nob w ((w.alloc (.cells (tabL t ev).toArray 44)).alloc (.cells (ownL ov).toArray 77)) := ((Mod.refl nob w).alloc _).alloc _
  have HM0 := Lib.hid hm0
  have HTT := Lib.hid ht
  have HSU : Hid (∀ wx, Mod nob w wx → Calls Try.prog 75 #[.slice (some ⟨g, 0, none⟩) 3128 c] wx fun e w' => e = .returned (.bool (superB S)) ∧ wx = w') := fun wx hm => ref_super10 (hw.still hm (fun h => h)) hc
  obtain ⟨AT, hAT⟩ : ∃ v, v = Value.agg (tabL t ev).toArray := ⟨_, rfl⟩
  obtain ⟨AO, hAO⟩ : ∃ v, v = Value.agg (ownL ov).toArray := ⟨_, rfl⟩
  have HCO : Hid (∀ wx, Mod nob w wx → ∀ i : Nat, Calls Try.prog 41 #[AT, .int .i64 (i : Nat)] wx fun e w' => e = .returned (.int .i64 (cntT t i 32 : Nat)) ∧ Below wx.heap.size wx w') := fun wx hm i => by rw [hAT]; exact ref_count10 hl (ht.holds.still hm) ht.n24 i
  have HBE : Hid (∀ wx, Mod nob w wx → ∀ i : Int, Calls Try.prog 45 #[AT, .int .i64 0, .int .i64 i] wx fun e w' => e = .returned (.bool (belB t 0 i)) ∧ Below wx.heap.size wx w') := fun wx hm i => by rw [hAT]; exact refBelow9 ht.right (ht.holds.still hm) ht.ents (fun k hk => by have := ht.n24 k hk; omega) 0 i
  have HBK : Hid (∀ wx, Mod nob w wx → Calls Try.prog 76 #[.slice (some ⟨g, 0, none⟩) 3128 c, AT, AO] wx fun e w' => e = .returned (.bool (rblB S t xs)) ∧ Below wx.heap.size wx w') := fun wx hm => by
    rw [hAT, hAO]
    exact ref_blocks10 hok (hw.still hm (fun h => h)) hc hl ht.siz ⟨fun k hk => (hx.holds k hk).mod hm (fun _ _ _ h => h), hx.len, hx.lt⟩
  have HTL : Hid (∀ wx, Mod nob w wx → Calls Try.prog 77 #[.slice (some ⟨g, 0, none⟩) 3128 c, AT] wx fun e w' => e = .returned (.bool (rtlB S t)) ∧ Below wx.heap.size wx w') := fun wx hm => by
    rw [hAT]
    exact ref_tails10 hok (hw.still hm (fun h => h)) hc hl ht.siz
  obtain ⟨bw, hbw⟩ : ∃ b, b = wrgB S t xs good := ⟨_, rfl⟩
  rw [← hbw]
  have HB0 : Hid (bw 0 = superB S) := by rw [hbw]; rfl
  have HB1 : Hid (bw 1 = good) := by rw [hbw]; rfl
  have HT2 : Hid ((t 0).kind = 2 ∧ EnP t 32 → bw 2 = true) := fun h => by rw [hbw]; exact wrg2T h
  have HF2 : Hid (¬ ((t 0).kind = 2 ∧ EnP t 32) → bw 2 = false) := fun h => by rw [hbw]; exact wrg2F h
  have HT3 : Hid (LkP t 32 → bw 3 = true) := fun h => by rw [hbw]; exact wrg3T h
  have HF3 : Hid (¬ LkP t 32 → bw 3 = false) := fun h => by rw [hbw]; exact wrg3F h
  have HT4 : Hid (ReT t 32 → bw 4 = true) := fun h => by rw [hbw]; exact wrg4T h
  have HF4 : Hid (¬ ReT t 32 → bw 4 = false) := fun h => by rw [hbw]; exact wrg4F h
  have HB5 : Hid (bw 5 = rblB S t xs) := by rw [hbw]; rfl
  have HB6 : Hid (bw 6 = rtlB S t) := by rw [hbw]; rfl
  have HISL : Hid ((Try.prog.info? 44).map (·.size) = some (tabL t ev).length) := by unfold Hid; rw [tabL_len hl]; exact Try.info576
  have HISO : Hid ((Try.prog.info? 77).map (·.size) = some (ownL ov).length) := by unfold Hid; rw [ownL_len]; kernel_rfl
  have HU44 := Lib.hid Try.underlying44
  have HU77 := Lib.hid Try.underlying77
  obtain ⟨hc1, hc2⟩ := hc
  unfold maxLen at hc2
  have HAT := Lib.hid hAT
  have HAO := Lib.hid hAO
  have HCL : Hid (∀ i, cntT t i 32 ≤ 768) := fun i => by have := cntT_le ht.n24 i 32 (Nat.le_refl _); omega
  clear hb hm0 hok hw ht hx hl hbw hAT hAO
  go_enter Try.func39, Try.ntmps39
  go_upto_region 1 with (fail)
  rw [← HAT.out, ← HAO.out]
  generalize (w.alloc (.cells (tabL t ev).toArray 44)).alloc (.cells (ownL ov).toArray 77) = w1 at *
  obtain ⟨X, hX⟩ : ∃ X, X = w.heap.size := ⟨_, rfl⟩
  rw [← hX] at HT HO ⊢
  have HXX := Lib.hid hX
  clear hX
  obtain ⟨b0, hb0⟩ : ∃ b, b = superB S := ⟨_, rfl⟩
  rw [← hb0] at HSU HB0
  clear hb0
  have HSU1 := Lib.hid (HSU.out w1 HM0.out)
  clear HSU
  cases b0 with
  | false =>
    go_wp2_with (go_at_call 75; (with_reducible refine HSU1.out.mono ?_); (rintro e w' ⟨rfl, rfl⟩))
    go_ret
    exact ⟨⟨1, rfl, .inr ⟨0, rfl, by omega, HB0.out, fun j hj => by omega⟩⟩, nob_mod_below HM0.out⟩
  | true =>
    go_upto_region 3 with (go_at_call 75; (with_reducible refine HSU1.out.mono ?_); (rintro e w' ⟨rfl, rfl⟩))
    clear HSU1
    cases good with
    | false =>
      go_wp2_with fail
      go_ret
      exact ⟨⟨2, rfl, .inr ⟨1, rfl, by omega, HB1.out, fun j hj => by rw [show j = 0 by omega]; exact HB0.out⟩⟩, nob_mod_below HM0.out⟩
    | true =>
      have hpre2 : ∀ j, j < 2 → bw j = true := fun j hj => by
        rcases (show j = 0 ∨ j = 1 by omega) with e | e <;> subst e <;> first | exact HB0.out | exact HB1.out
      have HP2 := Lib.hid hpre2
      clear hpre2
      have ck0 := HT.out.knd 0 (by omega)
      rw [show 0 * 18 + 1 = 1 by omega] at ck0
      obtain ⟨k0, hk0⟩ : ∃ x, x = (t 0).kind := ⟨_, rfl⟩
      rw [← hk0] at ck0
      have HK0 := Lib.hid hk0
      clear hk0
      by_cases h2 : k0 = 2
      · subst h2
        go_wp2_with fail
        go_loopg [9] 32 (fun gk iv wr => ∃ k : Nat, k + gk = 32 ∧ iv = .int .i64 (k : Nat) ∧ Hid (EnP t k) ∧ w1 = wr)
        case atStart => exact ⟨0, by omega, rfl, (fun j h => by omega), rfl⟩
        case round =>
          obtain ⟨k, hk, rfl, HEP, rfl⟩ := hrel
          have hk0 : (0 : Int) ≤ (k : Int) := Int.natCast_nonneg _
          by_cases hlt : k < 32
          · have hki : (k : Int) < 32 := by omega
            have ec := HT.out.evc k hlt
            obtain ⟨ao, oc, hev, hc3, hc4, -, hcells⟩ := (HTT.out.holds k hlt).mod HM0.out (fun _ _ _ h => h)
            rw [hev] at ec
            obtain ⟨L, hL⟩ : ∃ L, L = (t k).ents.length := ⟨_, rfl⟩
            have hL24 : L ≤ 24 := by rw [hL]; exact HTT.out.n24 k hlt
            rw [← hL] at ec hcells hc3
            have HCE : Hid (∀ j, j < L → ∃ g o, ao = some ⟨g, o, none⟩ ∧ w1.cell? ⟨g, o + j * 2 + 1, none⟩ = some (.int .i64 ((t k).ents.getD j default).ino)) := fun j hj => by
              obtain ⟨g, o, h1, -, h3⟩ := hcells j hj
              exact ⟨g, o, h1, h3⟩
            unfold maxLen at hc4
            have HLL := Lib.hid hL
            clear hev hcells hL
            go_wp2_with fail
            go_loopg [10] L (fun gk jv wr => ∃ j : Nat, j + gk = L ∧ jv = .int .i64 (j : Nat) ∧ Hid (EnT t k j) ∧ w1 = wr)
            case atStart => exact ⟨0, by omega, rfl, (fun j h => by omega), rfl⟩
            case round =>
              obtain ⟨j, hj, rfl, HET, rfl⟩ := hrel
              have hj0 : (0 : Int) ≤ (j : Int) := Int.natCast_nonneg _
              by_cases hltj : j < L
              · have hji : (j : Int) < (L : Int) := by omega
                obtain ⟨g1, o1, rfl, e1⟩ := HCE.out j hltj
                have hmem : (t k).ents.getD j default ∈ (t k).ents := by
                  rw [List.getD_eq_getElem?_getD, List.getElem?_eq_getElem (by rw [← HLL.out]; exact hltj)]
                  exact List.getElem_mem _
                obtain ⟨z0, z1⟩ := HTT.out.ents k hlt _ hmem
                obtain ⟨z, hz⟩ : ∃ z, z = ((t k).ents.getD j default).ino := ⟨_, rfl⟩
                rw [← hz] at e1 z0 z1
                have HZZ := Lib.hid hz
                clear hmem hz
                obtain ⟨q, rfl⟩ := Int.eq_ofNat_of_zero_le z0
                have hq32 : q < 32 := by omega
                have cf := HT.out.fmt q hq32
                obtain ⟨fo, hfo⟩ : ∃ fo, fo = (t q).format := ⟨_, rfl⟩
                rw [← hfo] at cf
                have HFO := Lib.hid hfo
                clear hfo
                by_cases h0 : fo = 0
                · subst h0
                  have HF : Hid (bw 2 = false) := HF2.out (fun h => by
                    have := h.2 k hlt j (by rw [← HLL.out]; exact hltj)
                    rw [← HZZ.out, Int.toNat_natCast] at this
                    exact this HFO.out.symm)
                  go_wp2_with fail
                  go_ret
                  exact ⟨⟨3, rfl, .inr ⟨2, rfl, by omega, HF.out, HP2.out⟩⟩, nob_mod_below HM0.out⟩
                · have hb0 : (fo == 0) = false := beq_eq_false_iff_ne.2 h0
                  have HEN : Hid (EnT t k (j + 1)) := fun y hy => by
                    by_cases e : y = j
                    · subst e
                      rw [← HZZ.out, Int.toNat_natCast, ← HFO.out]
                      exact h0
                    · exact HET.out y (by omega)
                  go_wp2_with fail
                  go_roundg (gk - 1)
                  case measure => omega
                  case rel => exact ⟨j + 1, by omega, by go_num, HEN.out, rfl⟩
              · obtain rfl : j = L := by omega
                have hji : ¬ (j : Int) < (j : Int) := by omega
                have HPN : Hid (EnP t (k + 1)) := fun y hy => by
                  by_cases e : y = k
                  · subst e; rw [← HLL.out]; exact HET.out
                  · exact HEP.out y (by omega)
                go_wp2_with fail
                go_roundg (32 - k - 1)
                case measure => omega
                case rel => exact ⟨k + 1, by omega, by go_num, HPN.out, rfl⟩
          · obtain rfl : k = 32 := by omega
            have hki : ¬ ((32 : Nat) : Int) < 32 := by omega
            have hpre3 : ∀ j, j < 3 → bw j = true := fun j hj => by
              by_cases e : j = 2
              · subst e; exact HT2.out ⟨HK0.out.symm, HEP.out⟩
              · exact HP2.out j (by omega)
            have HP3 := Lib.hid hpre3
            clear hpre3 HT2 HF2 HP2 HEP ck0
            go_wp2_with fail
            go_loopg [11] 32 (fun gk iv wr => ∃ i : Nat, i + gk = 32 ∧ iv = .int .i64 (i : Nat) ∧ Hid (LkP t i) ∧ Hid (Mod nob w wr ∧ TabB wr X t ev ∧ OwnB wr (X + 1) ov))
            case atStart => exact ⟨0, by omega, rfl, (fun j h => by omega), ⟨HM0.out, HT.out, HO.out⟩⟩
            case round =>
              obtain ⟨i, hi, rfl, HLP, HST⟩ := hrel
              clear HT HO HM0
              have hi0' : (0 : Int) ≤ (i : Int) := Int.natCast_nonneg _
              by_cases hlt : i < 32
              · have hii : (i : Int) < 32 := by omega
                have HRT := Lib.hid HST.out.2.1.all
                have HCO1 := Lib.hid (HCO.out wr HST.out.1 i)
                have hcl := HCL.out i
                obtain ⟨cv, hcv⟩ : ∃ c, c = cntT t i 32 := ⟨_, rfl⟩
                rw [← hcv] at HCO1 hcl
                have HC := Lib.hid hcv
                clear hcv
                go_upto_region 19 with (first
                  | (with_reducible refine wpList_load_mid (op := ⟨some 52, _, _, _, _, _⟩) rfl 44 _ rfl X 0 rfl (tabL t ev) _ HRT.out HU44.out rfl HISL.out ?_; rw [← HAT.out])
                  | (go_at_call 41; (with_reducible refine HCO1.out.mono ?_); (rintro e w5 ⟨rfl, hb5⟩)))
                have hm5 : Mod nob wr w5 := mod_of_below hb5
                have HX5 : Hid (Mod nob w w5 ∧ TabB w5 X t ev ∧ OwnB w5 (X + 1) ov) := ⟨HST.out.1.step hm5 (fun _ h => h), HST.out.2.1.mod hm5 (fun h => h), HST.out.2.2.mod hm5 (fun h => h)⟩
                have c1 := HX5.out.2.1.knd i hlt
                have c2 := HX5.out.2.1.lnk' i hlt
                obtain ⟨ki, hki⟩ : ∃ x, x = (t i).kind := ⟨_, rfl⟩
                obtain ⟨li, hli⟩ : ∃ x, x = (t i).links := ⟨_, rfl⟩
                rw [← hki] at c1
                rw [← hli] at c2
                have HK := Lib.hid hki
                have HL := Lib.hid hli
                clear hki hli hb5 hm5 HST HCO1 HRT
                by_cases hk2 : ki = 2
                · subst hk2
                  have hk21 : ((2 : Int) == 1) = false := by decide
                  by_cases hl1 : li = 1
                  · subst hl1
                    by_cases hi0 : i = 0
                    · subst hi0
                      have c1z : w5.cell? ⟨X, 1, none⟩ = some (.int .i64 2) := c1
                      have c2z : w5.cell? ⟨X, 2, none⟩ = some (.int .i64 1) := c2
                      by_cases hc0 : cv = 0
                      · have hcn : ((cv : Int) != 0) = false := by simp [hc0]
                        have HPN : Hid (LkP t (0 + 1)) := fun y hy => by
                          by_cases e : y = 0
                          · subst e
                            exact ⟨fun _ => ⟨HL.out.symm, fun _ => HC.out.symm.trans hc0, fun h => by omega⟩, fun h => by have := HK.out.trans h; omega⟩
                          · exact HLP.out y (by omega)
                        go_wp2_with fail
                        go_roundg (gk - 1)
                        case measure => omega
                        case rel => exact ⟨0 + 1, by omega, by go_num, HPN.out, HX5.out⟩
                      · have hcn : ((cv : Int) != 0) = true := by simpa using hc0
                        have HF : Hid (bw 3 = false) := HF3.out (fun h => by
                          have h9 := h 0 hlt
                          exact hc0 (HC.out.trans ((h9.1 HK.out.symm).2.1 rfl)))
                        go_wp2_with fail
                        go_ret
                        exact ⟨⟨4, rfl, .inr ⟨3, rfl, by omega, HF.out, HP3.out⟩⟩, nob_mod_below HX5.out.1⟩
                    · have hie : ((i : Int) == 0) = false := by simpa using hi0
                      have hig : (0 : Int) < (i : Int) := by omega
                      by_cases hc1 : cv = 1
                      · have hcn : ((cv : Int) != 1) = false := by simp [hc1]
                        have HPN : Hid (LkP t (i + 1)) := fun y hy => by
                          by_cases e : y = i
                          · subst e
                            exact ⟨fun _ => ⟨HL.out.symm, fun h => absurd h hi0, fun _ => HC.out.symm.trans hc1⟩, fun h => by have := HK.out.trans h; omega⟩
                          · exact HLP.out y (by omega)
                        go_wp2_with fail
                        go_roundg (gk - 1)
                        case measure => omega
                        case rel => exact ⟨i + 1, by omega, by go_num, HPN.out, HX5.out⟩
                      · have hcn : ((cv : Int) != 1) = true := bne_iff_ne.2 (by omega)
                        have HF : Hid (bw 3 = false) := HF3.out (fun h => by
                          have h9 := h i hlt
                          exact hc1 (HC.out.trans ((h9.1 HK.out.symm).2.2 (by omega))))
                        go_wp2_with fail
                        go_ret
                        exact ⟨⟨4, rfl, .inr ⟨3, rfl, by omega, HF.out, HP3.out⟩⟩, nob_mod_below HX5.out.1⟩
                  · have hln : (li != 1) = true := bne_iff_ne.2 hl1
                    have HF : Hid (bw 3 = false) := HF3.out (fun h => by
                      have h9 := h i hlt
                      exact hl1 (HL.out.trans (h9.1 HK.out.symm).1))
                    go_wp2_with fail
                    go_ret
                    exact ⟨⟨4, rfl, .inr ⟨3, rfl, by omega, HF.out, HP3.out⟩⟩, nob_mod_below HX5.out.1⟩
                · have hk2b : (ki == 2) = false := beq_eq_false_iff_ne.2 hk2
                  by_cases hk1 : ki = 1
                  · subst hk1
                    by_cases hc0 : (cv : Int) < 1
                    · have HF : Hid (bw 3 = false) := HF3.out (fun h => by
                        have h9 := h i hlt
                        have := (h9.2 HK.out.symm).1
                        rw [← HC.out] at this
                        omega)
                      go_wp2_with fail
                      go_ret
                      exact ⟨⟨4, rfl, .inr ⟨3, rfl, by omega, HF.out, HP3.out⟩⟩, nob_mod_below HX5.out.1⟩
                    · have hcd : decide ((cv : Int) < 1) = false := decide_eq_false hc0
                      by_cases hcl : (cv : Int) = li
                      · have hcb : ((cv : Int) != li) = false := by simpa using hcl
                        have HPN : Hid (LkP t (i + 1)) := fun y hy => by
                          by_cases e : y = i
                          · subst e
                            exact ⟨fun h => absurd (HK.out.trans h) (by decide), fun _ => ⟨by rw [← HC.out]; omega, by rw [← HC.out, ← HL.out]; exact hcl⟩⟩
                          · exact HLP.out y (by omega)
                        clear hcl
                        go_wp2_with fail
                        go_roundg (gk - 1)
                        case measure => omega
                        case rel => exact ⟨i + 1, by omega, by go_num, HPN.out, HX5.out⟩
                      · have hcb : ((cv : Int) != li) = true := bne_iff_ne.2 hcl
                        have HF : Hid (bw 3 = false) := HF3.out (fun h => by
                          have h9 := h i hlt
                          have := (h9.2 HK.out.symm).2
                          rw [← HC.out, ← HL.out] at this
                          exact hcl this)
                        go_wp2_with fail
                        go_ret
                        exact ⟨⟨4, rfl, .inr ⟨3, rfl, by omega, HF.out, HP3.out⟩⟩, nob_mod_below HX5.out.1⟩
                  · have hk1b : (ki == 1) = false := beq_eq_false_iff_ne.2 hk1
                    have HPN : Hid (LkP t (i + 1)) := fun y hy => by
                      by_cases e : y = i
                      · subst e
                        exact ⟨fun h => absurd (HK.out.trans h) hk2, fun h => absurd (HK.out.trans h) hk1⟩
                      · exact HLP.out y (by omega)
                    go_wp2_with fail
                    go_roundg (gk - 1)
                    case measure => omega
                    case rel => exact ⟨i + 1, by omega, by go_num, HPN.out, HX5.out⟩
              · obtain rfl : i = 32 := by omega
                have hii : ¬ ((32 : Nat) : Int) < 32 := by omega
                have hpre4 : ∀ j, j < 4 → bw j = true := fun j hj => by
                  by_cases e : j = 3
                  · subst e; exact HT3.out HLP.out
                  · exact HP3.out j (by omega)
                have HP4 := Lib.hid hpre4
                clear hpre4 HT3 HF3 HP3 HLP HCO HCL
                go_wp2_with fail
                go_loopg [13] 32 (fun gk iv wr => ∃ i : Nat, i + gk = 32 ∧ iv = .int .i64 (i : Nat) ∧ Hid (ReT t i) ∧ Hid (Mod nob w wr ∧ TabB wr X t ev ∧ OwnB wr (X + 1) ov))
                case atStart => exact ⟨0, by omega, rfl, (fun j h => by omega), HST.out⟩
                case round =>
                  obtain ⟨i, hi, rfl, HRP, HST2⟩ := hrel
                  clear HST
                  have hi0' : (0 : Int) ≤ (i : Int) := Int.natCast_nonneg _
                  have HRT := Lib.hid HST2.out.2.1.all
                  by_cases hlt : i < 32
                  · have hii : (i : Int) < 32 := by omega
                    have cf := HST2.out.2.1.fmt i hlt
                    obtain ⟨fo, hfo⟩ : ∃ fo, fo = (t i).format := ⟨_, rfl⟩
                    rw [← hfo] at cf
                    have HFO := Lib.hid hfo
                    clear hfo
                    have HBE1 := Lib.hid (HBE.out wr HST2.out.1 (i : Nat))
                    obtain ⟨bl, hbl⟩ : ∃ b, b = belB t 0 (i : Int) := ⟨_, rfl⟩
                    rw [← hbl] at HBE1
                    have HBL := Lib.hid hbl
                    clear hbl
                    by_cases h0 : 0 < fo
                    · cases bl with
                      | true =>
                        have HRN : Hid (ReT t (i + 1)) := fun y hy hf => by
                          by_cases e : y = i
                          · subst e; exact HBL.out.symm
                          · exact HRP.out y (by omega) hf
                        go_wp2_with (first
                          | (with_reducible refine wpList_load_mid (op := ⟨some 112, _, _, _, _, _⟩) rfl 44 _ rfl X 0 rfl (tabL t ev) _ HRT.out HU44.out rfl HISL.out ?_; rw [← HAT.out])
                          | (refine wpList_unguard (by rfl) ?_; (with_reducible refine wpList_load_mid (op := ⟨some 112, _, _, _, _, _⟩) rfl 44 _ rfl X 0 rfl (tabL t ev) _ HRT.out HU44.out rfl HISL.out ?_); rw [← HAT.out])
                          | (go_at_call 45; (with_reducible refine HBE1.out.mono ?_); (rintro e w5 ⟨rfl, hb5⟩)))
                        have hm5 : Mod nob wr w5 := mod_of_below hb5
                        have HX5 : Hid (Mod nob w w5 ∧ TabB w5 X t ev ∧ OwnB w5 (X + 1) ov) := ⟨HST2.out.1.step hm5 (fun _ h => h), HST2.out.2.1.mod hm5 (fun h => h), HST2.out.2.2.mod hm5 (fun h => h)⟩
                        go_roundg (gk - 1)
                        case measure => omega
                        case rel => exact ⟨i + 1, by omega, by go_num, HRN.out, HX5.out⟩
                      | false =>
                        have HF : Hid (bw 4 = false) := HF4.out (fun h => by
                          have := h i hlt (by rw [← HFO.out]; exact h0)
                          rw [← HBL.out] at this
                          cases this)
                        go_wp2_with (first
                          | (with_reducible refine wpList_load_mid (op := ⟨some 112, _, _, _, _, _⟩) rfl 44 _ rfl X 0 rfl (tabL t ev) _ HRT.out HU44.out rfl HISL.out ?_; rw [← HAT.out])
                          | (refine wpList_unguard (by rfl) ?_; (with_reducible refine wpList_load_mid (op := ⟨some 112, _, _, _, _, _⟩) rfl 44 _ rfl X 0 rfl (tabL t ev) _ HRT.out HU44.out rfl HISL.out ?_); rw [← HAT.out])
                          | (go_at_call 45; (with_reducible refine HBE1.out.mono ?_); (rintro e w5 ⟨rfl, hb5⟩)))
                        have hm5 : Mod nob wr w5 := mod_of_below hb5
                        go_ret
                        exact ⟨⟨5, rfl, .inr ⟨4, rfl, by omega, HF.out, HP4.out⟩⟩, nob_mod_below (HST2.out.1.step hm5 (fun _ h => h))⟩
                    · have h0b : decide (0 < fo) = false := decide_eq_false h0
                      have HRN : Hid (ReT t (i + 1)) := fun y hy hf => by
                        by_cases e : y = i
                        · subst e; rw [← HFO.out] at hf; exact absurd hf h0
                        · exact HRP.out y (by omega) hf
                      go_wp2_with fail
                      go_roundg (gk - 1)
                      case measure => omega
                      case rel => exact ⟨i + 1, by omega, by go_num, HRN.out, HST2.out⟩
                  · obtain rfl : i = 32 := by omega
                    have hii : ¬ ((32 : Nat) : Int) < 32 := by omega
                    have hpre5 : ∀ j, j < 5 → bw j = true := fun j hj => by
                      by_cases e : j = 4
                      · subst e; exact HT4.out HRP.out
                      · exact HP4.out j (by omega)
                    have HP5 := Lib.hid hpre5
                    have HRO := Lib.hid HST2.out.2.2.all
                    have HBK1 := Lib.hid (HBK.out wr HST2.out.1)
                    obtain ⟨bk, hbk⟩ : ∃ b, b = rblB S t xs := ⟨_, rfl⟩
                    rw [← hbk] at HBK1 HB5
                    clear hpre5 HT4 HF4 HP4 HRP HBE hbk HBK
                    go_upto_region 26 with (fail)
                    cases bk with
                    | false =>
                      go_wp2_with (first
                        | (with_reducible refine wpList_load_mid (op := ⟨some 118, _, _, _, _, _⟩) rfl 44 _ rfl X 0 rfl (tabL t ev) _ HRT.out HU44.out rfl HISL.out ?_; rw [← HAT.out])
                        | (with_reducible refine wpList_load_mid (op := ⟨some 119, _, _, _, _, _⟩) rfl 77 _ rfl (X + 1) 0 rfl (ownL ov) _ HRO.out HU77.out rfl HISO.out ?_; rw [← HAO.out])
                        | (go_at_call 76; (with_reducible refine HBK1.out.mono ?_); (rintro e w5 ⟨rfl, hb5⟩)))
                      have hm5 : Mod nob wr w5 := mod_of_below hb5
                      go_ret
                      exact ⟨⟨6, rfl, .inr ⟨5, rfl, by omega, HB5.out, HP5.out⟩⟩, nob_mod_below (HST2.out.1.step hm5 (fun _ h => h))⟩
                    | true =>
                      go_upto_region 28 with (first
                        | (with_reducible refine wpList_load_mid (op := ⟨some 118, _, _, _, _, _⟩) rfl 44 _ rfl X 0 rfl (tabL t ev) _ HRT.out HU44.out rfl HISL.out ?_; rw [← HAT.out])
                        | (with_reducible refine wpList_load_mid (op := ⟨some 119, _, _, _, _, _⟩) rfl 77 _ rfl (X + 1) 0 rfl (ownL ov) _ HRO.out HU77.out rfl HISO.out ?_; rw [← HAO.out])
                        | (go_at_call 76; (with_reducible refine HBK1.out.mono ?_); (rintro e w5 ⟨rfl, hb5⟩)))
                      have hm5 : Mod nob wr w5 := mod_of_below hb5
                      have HM5 : Hid (Mod nob w w5) := HST2.out.1.step hm5 (fun _ h => h)
                      have HRT5 := Lib.hid (HST2.out.2.1.mod hm5 (fun h => h)).all
                      have HTL1 := Lib.hid (HTL.out w5 HM5.out)
                      obtain ⟨bt, hbt⟩ : ∃ b, b = rtlB S t := ⟨_, rfl⟩
                      rw [← hbt] at HTL1 HB6
                      have hpre6 : ∀ j, j < 6 → bw j = true := fun j hj => by
                        by_cases e : j = 5
                        · subst e; exact HB5.out
                        · exact HP5.out j (by omega)
                      have HP6 := Lib.hid hpre6
                      clear hb5 hm5 HRT HRO HST2 HTL hbt hpre6
                      cases bt with
                      | false =>
                        go_wp2_with (first
                          | (with_reducible refine wpList_load_mid (op := ⟨some 123, _, _, _, _, _⟩) rfl 44 _ rfl X 0 rfl (tabL t ev) _ HRT5.out HU44.out rfl HISL.out ?_; rw [← HAT.out])
                          | (go_at_call 77; (with_reducible refine HTL1.out.mono ?_); (rintro e w6 ⟨rfl, hb6⟩)))
                        have hm6 : Mod nob w5 w6 := mod_of_below hb6
                        go_ret
                        exact ⟨⟨7, rfl, .inr ⟨6, rfl, by omega, HB6.out, HP6.out⟩⟩, nob_mod_below (HM5.out.step hm6 (fun _ h => h))⟩
                      | true =>
                        go_wp2_with (first
                          | (with_reducible refine wpList_load_mid (op := ⟨some 123, _, _, _, _, _⟩) rfl 44 _ rfl X 0 rfl (tabL t ev) _ HRT5.out HU44.out rfl HISL.out ?_; rw [← HAT.out])
                          | (go_at_call 77; (with_reducible refine HTL1.out.mono ?_); (rintro e w6 ⟨rfl, hb6⟩)))
                        have hm6 : Mod nob w5 w6 := mod_of_below hb6
                        go_ret
                        exact ⟨⟨0, rfl, .inl ⟨rfl, fun j hj => by
                          by_cases e : j = 6
                          · subst e; exact HB6.out
                          · exact HP6.out j (by omega)⟩⟩, nob_mod_below (HM5.out.step hm6 (fun _ h => h))⟩
      · have hb : (k0 != 2) = true := bne_iff_ne.2 h2
        have HF : Hid (bw 2 = false) := HF2.out (fun h => h2 (HK0.out.trans h.1))
        go_wp2_with fail
        go_ret
        exact ⟨⟨3, rfl, .inr ⟨2, rfl, by omega, HF.out, HP2.out⟩⟩, nob_mod_below HM0.out⟩
end Go.Proofs.Ytlopdbhjdijlmaa

namespace Go.Proofs.Ytlopdbhjdijlmaa
set_option linter.unusedSimpArgs false
set_option linter.unusedVariables false

theorem take_getD_snoc {α : Type} (l : List α) (d : α) (j : Nat) (h : j < l.length) : l.take (j + 1) = l.take j ++ [l.getD j d] := by
  rw [List.take_succ_eq_append_getElem h, List.getD_eq_getElem?_getD, List.getElem?_eq_getElem h]
  rfl
theorem cntX_count (l : List Nat) (b : Nat) : ∀ j, j ≤ l.length → cntX l b j = (l.take j).count b
  | 0, _ => by simp [cntX]
  | j + 1, h => by
    unfold cntX
    rw [cntX_count l b j (by omega), take_getD_snoc l 0 j (by omega), List.count_append]
    congr 1
    rw [List.count_singleton]
    by_cases e : l.getD j 0 = b
    · rw [if_pos e, if_pos (by simpa using e)]
    · rw [if_neg e, if_neg (by simpa using e)]
theorem cntX_all (l : List Nat) (b : Nat) : cntX l b l.length = l.count b := by
  rw [cntX_count l b _ (Nat.le_refl _), List.take_length]
theorem cntB_count (l : List Int) (b : Int) : ∀ j, j ≤ l.length → cntB l b j = (l.take j).count b
  | 0, _ => by simp [cntB]
  | j + 1, h => by
    unfold cntB
    rw [cntB_count l b j (by omega), take_getD_snoc l 0 j (by omega), List.count_append]
    congr 1
    rw [List.count_singleton]
    by_cases e : l.getD j 0 = b
    · rw [if_pos e, if_pos (by simpa using e)]
    · rw [if_neg e, if_neg (by simpa using e)]
theorem blkN_count (b : Nat) (hb : 1 ≤ b) : ∀ (l : List Int), (∀ x ∈ l, 0 ≤ x) → (blkN l).count b = l.count (b : Int)
  | [], _ => rfl
  | x :: l, h => by
    have ih := blkN_count b hb l (fun y hy => h y (List.mem_cons_of_mem _ hy))
    have hx := h x (List.mem_cons_self ..)
    unfold blkN at ih ⊢
    by_cases h0 : x = 0
    · subst h0
      rw [List.filter_cons_of_neg (by simp), ih, List.count_cons]
      rw [if_neg (by simp; omega)]
      rfl
    · rw [List.filter_cons_of_pos (by simpa using h0), List.map_cons, List.count_cons, List.count_cons, ih]
      congr 1
      by_cases e : x = (b : Int)
      · rw [if_pos (by simp; omega), if_pos (by simpa using e)]
      · rw [if_neg (by simp; omega), if_neg (by simpa using e)]
theorem blkN_zero (l : List Int) (h : ∀ x ∈ l, 0 ≤ x) : (blkN l).count 0 = 0 := by
  rw [List.count_eq_zero]
  intro hm
  unfold blkN at hm
  obtain ⟨x, hx, e⟩ := List.mem_map.1 hm
  obtain ⟨h1, h2⟩ := List.mem_filter.1 hx
  have := h x h1
  simp at h2
  omega
/-- What is got is right, or nothing is there. -/
theorem got_right {S : Sh} (hS : S.Ok) {k : Nat} (hk : k < 32) : (getR S (k : Int) = none ∧ gotT S k = ino0 ∧ ownI S (k : Int) = []) ∨ (RightP (gotT S k) ∧ (gotT S k).Ok ∧ getR S (k : Int) = some (gotT S k, ownI S (k : Int)) ∧ ∀ b ∈ ownI S (k : Int), 1 ≤ b ∧ b < 256) := by
  rcases got_cases hS hk with ⟨h1, h2⟩ | ⟨xs, h1, h2, h3, h4, h5⟩
  · exact .inl ⟨h1, h2, by unfold ownI; rw [h1]⟩
  · have e : ownI S (k : Int) = xs := by unfold ownI; rw [h1]
    rw [e]
    exact .inr ⟨h3, h2, h1, (getX_laid hS h1).2.2.2.mem⟩
theorem got_bl {S : Sh} (hS : S.Ok) {k : Nat} (hk : k < 32) : ∀ x ∈ (gotT S k).bl, 0 ≤ x := fun x hx => by
  obtain ⟨j, hj, rfl⟩ := List.getElem_of_mem hx
  have hl := got_len hS hk
  obtain ⟨b, hb, -⟩ := (got_file hS hk).2 j (by omega)
  rw [List.getD_eq_getElem?_getD, List.getElem?_eq_getElem hj] at hb
  simp only [Option.getD_some] at hb
  omega
theorem metN_metR {S : Sh} (hS : S.Ok) {xs : Nat → List Nat} (hx : ∀ k, k < 32 → xs k = ownI S (k : Int)) (b : Nat) (hb : 1 ≤ b) : ∀ k, k ≤ 32 → metN S b k = metR (gotT S) xs b k
  | 0, _ => rfl
  | k + 1, hk => by
    unfold metN metR
    rw [metN_metR hS hx b hb k (by omega), Nat.add_assoc]
    congr 1
    rw [cntX_all, cntX_all, cntB_count _ _ 13 (by rw [got_len hS (by omega : k < 32)]; exact Nat.le_refl _), List.take_of_length_le (by rw [got_len hS (by omega : k < 32)]; exact Nat.le_refl _), hx k (by omega)]
    rcases got_right hS (by omega : k < 32) with ⟨h1, h2, h3⟩ | ⟨-, -, h1, -⟩
    · rw [h3, h2]
      unfold allI
      rw [h1]
      show List.count b [] = List.count (b : Int) (List.replicate 13 0) + List.count b []
      rw [List.count_replicate, if_neg (by simp; omega)]
      rfl
    · unfold allI
      rw [h1]
      show List.count b (ownI S (k : Int) ++ blkN (gotT S k).bl) = _
      rw [List.count_append, blkN_count b hb _ (got_bl hS (by omega)), Nat.add_comm]
theorem metN_zero {S : Sh} (hS : S.Ok) : ∀ k, k ≤ 32 → metN S 0 k = 0
  | 0, _ => rfl
  | k + 1, hk => by
    unfold metN
    rw [metN_zero hS k (by omega), cntX_all]
    rcases got_right hS (by omega : k < 32) with ⟨h1, h2, h3⟩ | ⟨-, -, h1, h4⟩
    · unfold allI
      rw [h1]
      rfl
    · unfold allI
      rw [h1]
      show 0 + List.count 0 (ownI S (k : Int) ++ blkN (gotT S k).bl) = 0
      rw [List.count_append, blkN_zero _ (got_bl hS (by omega)), List.count_eq_zero.2 (fun h => by have := (h4 _ h).1; omega)]
theorem blk_iff {S : Sh} (hS : S.Ok) {xs : Nat → List Nat} (hx : ∀ k, k < 32 → xs k = ownI S (k : Int)) : blkB S = rblB S (gotT S) xs := by
  have hm := fun b hb => metN_metR hS hx b hb 32 (Nat.le_refl _)
  have h0 := metN_zero hS 32 (Nat.le_refl _)
  have e : (BlkP S 256 ∧ metN S 0 32 = 0) ↔ (RBlP S (gotT S) xs 256 ∧ bitB S 0 = false) := by
    constructor
    · rintro ⟨h1, h2⟩
      refine ⟨fun b hb1 hb => ?_, ?_⟩
      · rw [← hm b hb1]; exact h1 b hb
      · have := (h1 0 (by omega)).2
        rw [h2] at this
        exact this.symm
    · rintro ⟨h1, h2⟩
      refine ⟨fun b hb => ?_, h0⟩
      by_cases e : b = 0
      · subst e
        rw [h0, h2]
        exact ⟨by omega, rfl⟩
      · rw [hm b (by omega)]; exact h1 b (by omega) hb
  by_cases h : BlkP S 256 ∧ metN S 0 32 = 0
  · rw [blkB_true h, rblB_true (e.1 h)]
  · rw [blkB_false h, rblB_false (fun h2 => h (e.2 h2))]
theorem ent_iff {S : Sh} {xs : Nat → List Nat} {g : Bool} : entrB S = wrgB S (gotT S) xs g 2 := by
  by_cases h : (gotT S 0).kind = 2 ∧ EnP (gotT S) 32
  · rw [wrg2T h, entrB_true ⟨h.2, h.1⟩]
  · rw [wrg2F h, entrB_false (fun h2 => h ⟨h2.2, h2.1⟩)]
theorem lnk_iff {S : Sh} (hS : S.Ok) {xs : Nat → List Nat} {g : Bool} (h0 : entrB S = true) : lnkB S = wrgB S (gotT S) xs g 3 := by
  have hk0 : (gotT S 0).kind = 2 := Classical.byContradiction fun hn => by
    rw [entrB_false (fun h => hn h.2)] at h0
    cases h0
  have e : LnkP S 32 ↔ LkP (gotT S) 32 := by
    have hone : ∀ i, i < 32 → (((gotT S i).format ≠ 0 → ((cntR S i : Nat) : Int) = (gotT S i).links ∧ ¬ (gotT S i).links < 1 ∧ ((gotT S i).kind = 2 → (gotT S i).links = 1)) ↔ LkT (gotT S) i) := fun i hi => by
      have hcr : cntR S i = if i = 0 then cntT (gotT S) 0 32 + 1 else cntT (gotT S) i 32 := rfl
      unfold LkT
      rcases got_right hS hi with ⟨-, h2, -⟩ | ⟨hr, -⟩
      · rw [h2]
        constructor
        · intro _
          exact ⟨fun h => absurd h (by decide), fun h => absurd h (by decide)⟩
        · intro _ h
          exact absurd rfl h
      · have hf := hr.1
        have hkk : (gotT S i).kind = 1 ∨ (gotT S i).kind = 2 := by
          rcases hr.2.2.2 with ⟨h, -⟩ | ⟨h, -⟩
          · exact .inl h
          · exact .inr h
        by_cases hi0 : i = 0
        · subst hi0
          rw [if_pos rfl] at hcr
          rw [hcr]
          constructor
          · intro h
            obtain ⟨h1, h2, h3⟩ := h (by omega)
            have h4 := h3 hk0
            exact ⟨fun _ => ⟨h4, fun _ => by omega, fun h => by omega⟩, fun h => by omega⟩
          · rintro ⟨h1, h2⟩ _
            obtain ⟨h3, h4, -⟩ := h1 hk0
            have := h4 rfl
            exact ⟨by omega, by omega, fun _ => h3⟩
        · rw [if_neg hi0] at hcr
          rw [hcr]
          constructor
          · intro h
            obtain ⟨h1, h2, h3⟩ := h (by omega)
            exact ⟨fun hk => ⟨h3 hk, fun h => absurd h hi0, fun _ => by have := h3 hk; omega⟩, fun _ => ⟨by omega, h1⟩⟩
          · rintro ⟨h1, h2⟩ _
            rcases hkk with hk | hk
            · obtain ⟨h3, h4⟩ := h2 hk
              exact ⟨h4, by omega, fun h => by omega⟩
            · obtain ⟨h3, -, h5⟩ := h1 hk
              have := h5 (by omega)
              exact ⟨by omega, by omega, fun _ => h3⟩
    constructor
    · intro h i hi
      exact (hone i hi).1 (h i hi)
    · intro h i hi
      exact (hone i hi).2 (h i hi)
  by_cases h : LnkP S 32
  · rw [lnkB_true h, wrg3T (e.1 h)]
  · rw [lnkB_false h, wrg3F (fun h2 => h (e.2 h2))]
theorem rea_iff {S : Sh} (hS : S.Ok) {xs : Nat → List Nat} {g : Bool} : reachB S = wrgB S (gotT S) xs g 4 := by
  have e : ReachP S 32 ↔ ReT (gotT S) 32 := by
    have hf : ∀ i, i < 32 → ((gotT S i).format ≠ 0 ↔ 0 < (gotT S i).format) := fun i hi => by
      rcases got_right hS hi with ⟨-, h2, -⟩ | ⟨hr, -⟩
      · rw [h2]
        exact ⟨fun h => absurd rfl h, fun h => absurd h (by decide)⟩
      · have := hr.1
        omega
    constructor
    · intro h i hi h0
      exact h i hi ((hf i hi).2 h0)
    · intro h i hi h0
      exact h i hi ((hf i hi).1 h0)
  by_cases h : ReachP S 32
  · rw [reachB_true h, wrg4T (e.1 h)]
  · rw [reachB_false h, wrg4F (fun h2 => h (e.2 h2))]
theorem tl_iff {S : Sh} (hS : S.Ok) : tlB S = rtlB S (gotT S) := by
  have e : TlP S 32 ↔ RTlP S (gotT S) 32 := by
    have hone : ∀ i, i < 32 → (TlI S (gotT S i) ↔ ((gotT S i).kind = 1 → ∀ k, k < 13 → RTl S (gotT S i) k)) := fun i hi => by
      unfold TlI RTl
      obtain ⟨⟨sz, hsz, hsz2⟩, hbl⟩ := got_file hS hi
      rw [hsz, Int.toNat_natCast]
      constructor
      · intro h hk k hk13 j hj hp hs
        have hlt : (k : Int) * 64 < (sz : Int) := by
          rcases got_right hS hi with ⟨-, h2, -⟩ | ⟨hr, -⟩
          · rw [h2] at hk; cases hk
          · rcases hr.2.2.2 with ⟨-, hf⟩ | ⟨hd, -⟩
            · have := ((hf.1 k hk13).2 (by omega)).1
              rw [hsz] at this
              exact this
            · omega
        have hkk : sz / 64 = k := by omega
        have := h hk (by omega) (by rw [hkk]; omega) j (by omega) hj
        rw [hkk] at this
        exact this
      · intro h hk hk13 hn j h1 hj
        obtain ⟨b, hb, -⟩ := hbl (sz / 64) hk13
        exact h hk (sz / 64) hk13 j hj (by omega) (by omega)
    constructor
    · intro h i hi
      exact (hone i hi).1 (h i hi)
    · intro h i hi
      exact (hone i hi).2 (h i hi)
  by_cases h : TlP S 32
  · rw [tlB_true h, rtlB_true (e.1 h)]
  · rw [tlB_false h, rtlB_false (fun h2 => h (e.2 h2))]
theorem sev_wrg {S : Sh} (hS : S.Ok) {xs : Nat → List Nat} (hx : ∀ k, k < 32 → xs k = ownI S (k : Int)) : ∀ j, j < 7 → (∀ i, i < j → sevB S i = true) → sevB S j = wrgB S (gotT S) xs (inosB S) j := fun j hj hp => by
  rcases (show j = 0 ∨ j = 1 ∨ j = 2 ∨ j = 3 ∨ j = 4 ∨ j = 5 ∨ j = 6 by omega) with e | e | e | e | e | e | e <;> subst e
  · rfl
  · rfl
  · exact ent_iff
  · exact lnk_iff hS (hp 2 (by omega))
  · exact rea_iff hS
  · exact blk_iff hS hx
  · exact tl_iff hS
theorem snd_wrg {b c : Nat → Bool} (h : ∀ j, j < 7 → (∀ i, i < j → b i = true) → b j = c j) {k k2 : Nat} {ok : Bool} (h1 : SndP b k ok) (h2 : WrgP c k2) : k = k2 ∧ ok = decide (k2 = 0) := by
  rcases h1 with ⟨rfl, rfl, ha⟩ | ⟨rfl, i, rfl, hi, hf, hp⟩
  · have hc : ∀ j, j < 7 → c j = true := fun j hj => by rw [← h j hj (fun i hi => ha i (by omega))]; exact ha j hj
    rcases h2 with ⟨rfl, -⟩ | ⟨i, rfl, hi, hf, -⟩
    · exact ⟨rfl, rfl⟩
    · rw [hc i hi] at hf; cases hf
  · have hc : ∀ j, j < i → c j = true := fun j hj => by rw [← h j (by omega) (fun y hy => hp y (by omega))]; exact hp j hj
    have hci : c i = false := by rw [← h i hi hp]; exact hf
    rcases h2 with ⟨rfl, ha⟩ | ⟨i2, rfl, hi2, hf2, hp2⟩
    · rw [ha i hi] at hci; cases hci
    · rcases (show i < i2 ∨ i = i2 ∨ i2 < i by omega) with e | e | e
      · have := hp2 i e; rw [hci] at this; cases this
      · subst e; exact ⟨rfl, (decide_eq_false (by omega)).symm⟩
      · have := hc i2 e; rw [hf2] at this; cases this
end Go.Proofs.Ytlopdbhjdijlmaa

namespace Go.Proofs.Ytlopdbhjdijlmaa
open Go.ChangeShapes Go.WideShapes Go.ChangeAt Go.RowKit
set_option linter.unusedSimpArgs false
set_option linter.unusedVariables false

theorem getX10 {w : World} {p : Nat} {D : Nat → Prop} {S : Sh} (h : SheetAt w p D S) {k : Nat} (hk : k < 32) :
    Calls Try.prog 26 #[.pointer (some ⟨p, 0, none⟩), .int .i64 (k : Nat)] w fun e w' => ∃ v xv : Value, e = .returned (.tuple #[.agg (inoL (gotT S k) v).toArray, xv, .int .i64 (getE S (k : Int))]) ∧ HoldsE w' v (gotT S k).ents ∧ HoldsN w' xv (ownI S (k : Int)) ∧ (∀ g, v.ownBlock = some g → w.heap.size ≤ g) ∧ (∀ g, xv.ownBlock = some g → w.heap.size ≤ g) ∧ Below w.heap.size w w' := by
  have hg := get_ino h (k : Nat)
  rcases got_right h.ok hk with ⟨h1, h2, h3⟩ | ⟨-, -, h1, -⟩
  · rw [h1] at hg
    refine hg.mono ?_
    rintro e w' ⟨hb, rfl⟩
    rw [h2, h3]
    exact ⟨_, _, rfl, HoldsE.nil w', HoldsN.nil w', (fun g e => by cases e), (fun g e => by cases e), hb⟩
  · rw [h1] at hg
    refine hg.mono ?_
    rintro e w' ⟨hb, mv, xv, rfl, hmv, hxv, h3, h4⟩
    exact ⟨mv, xv, rfl, hmv, hxv, h3, h4, hb⟩
theorem got_tabT {S : Sh} (hS : S.Ok) {w : World} {ev : Nat → Value} (hh : HoldsT w (gotT S) ev) : TabT w (gotT S) ev := by
  obtain ⟨he, hn⟩ := got_ents hS
  refine ⟨fun k hk => ?_, he, hn, hh, fun k hk => got_file hS hk⟩
  rcases got_right hS hk with ⟨-, h2, -⟩ | ⟨h1, h2, -⟩
  · rw [h2]; exact ⟨ino0_ok10, .inl rfl⟩
  · exact ⟨h2, .inr h1⟩
open Classical in
/-- Whether all could be got, so far. -/
noncomputable def gotB (S : Sh) (n : Nat) : Bool := decide (InosP S n)
open Classical in
theorem gotB_true {S : Sh} {n : Nat} (h : InosP S n) : gotB S n = true := by unfold gotB; exact decide_eq_true h
open Classical in
theorem gotB_false {S : Sh} {n : Nat} (h : ¬ InosP S n) : gotB S n = false := by unfold gotB; exact decide_eq_false h
theorem gotB_zero (S : Sh) : gotB S 0 = true := gotB_true (fun k h => by omega)
theorem gotB_all (S : Sh) : gotB S 32 = inosB S := rfl
theorem gotB_of {S : Sh} {n : Nat} (h : gotB S n = true) : InosP S n := Classical.byContradiction fun hn => by rw [gotB_false hn] at h; cases h
theorem gotB_succ (S : Sh) (n : Nat) : gotB S (n + 1) = (gotB S n && (getE S (n : Int) == 0 || getE S (n : Int) == 2)) := by
  by_cases h : InosP S (n + 1)
  · rw [gotB_true h, gotB_true (fun k hk => h k (by omega))]
    rcases h n (by omega) with e | e <;> rw [e] <;> rfl
  · rw [gotB_false h]
    by_cases h1 : InosP S n
    · rw [gotB_true h1]
      have e0 : ¬ getE S (n : Int) = 0 := fun e => h (fun k hk => by
        by_cases ek : k = n
        · subst ek; exact .inl e
        · exact h1 k (by omega))
      have e2 : ¬ getE S (n : Int) = 2 := fun e => h (fun k hk => by
        by_cases ek : k = n
        · subst ek; exact .inr e
        · exact h1 k (by omega))
      rw [beq_eq_false_iff_ne.2 e0, beq_eq_false_iff_ne.2 e2]
      rfl
    · rw [gotB_false h1]; rfl
theorem OwnB.set {w : World} {B : Nat} {ov : Nat → Value} (h : OwnB w B ov) (i : Nat) (v : Value) : OwnB (w.setCell ⟨B, i, none⟩ v) B (setT ov i v) := by
  unfold OwnB at h ⊢
  rw [heap_setCell_same w B i _ _ _ h]
  congr 2
  apply Array.toList_inj.1
  rw [Array.toList_setIfInBounds]
  show (ownL ov).set i v = ownL (setT ov i v)
  apply List.ext_getElem?
  intro j
  by_cases hj : j < 32
  · rw [ownL_get _ j hj, List.getElem?_set]
    by_cases e : i = j
    · subst e
      rw [if_pos rfl, if_pos (by rw [ownL_len]; exact hj), setT_same]
    · rw [if_neg e, ownL_get _ j hj, setT_ne _ _ (Ne.symm e)]
  · rw [List.getElem?_eq_none (by rw [List.length_set, ownL_len]; omega), List.getElem?_eq_none (by rw [ownL_len]; omega)]
/-- What stands while all is got. -/
structure SndR (w wr : World) (p : Nat) (D : Nat → Prop) (S : Sh) (gw T k : Nat) (t : Nat → Ino) (ev ov : Nat → Value) : Prop where
  sheet : SheetAt wr p D S
  words : WordsH wr gw S
  tab : TabB wr T t ev
  own : OwnB wr (T + 1) ov
  holds : HoldsT wr t ev
  owns : ∀ q, q < 32 → HoldsN wr (ov q) (if q < k then ownI S (q : Int) else [])
  got : ∀ q, q < k → t q = gotT S q
  mod : Mod nob w wr
  bt : w.heap.size ≤ T
  apart : ∀ b, D b → b < T
  gwt : gw < T
  sep : ∀ q, q < 32 → ∀ g, (ev q).ownBlock = some g → g ≠ T ∧ g ≠ T + 1
  sepo : ∀ q, q < 32 → ∀ g, (ov q).ownBlock = some g → g ≠ T ∧ g ≠ T + 1
theorem SndR.still {w wr w' : World} {p : Nat} {D : Nat → Prop} {S : Sh} {gw T k : Nat} {t : Nat → Ino} {ev ov : Nat → Value} (h : SndR w wr p D S gw T k t ev ov) (hm : Mod nob wr w') : SndR w w' p D S gw T k t ev ov :=
  ⟨h.sheet.mod hm (fun _ _ h => h), h.words.still hm (fun h => h), h.tab.mod hm (fun h => h), h.own.mod hm (fun h => h), h.holds.still hm, fun q hq => (h.owns q hq).mod hm (fun _ _ _ h => h), h.got, h.mod.step hm (fun _ h => h), h.bt, h.apart, h.gwt, h.sep, h.sepo⟩
theorem SndR.lt {w wr : World} {p : Nat} {D : Nat → Prop} {S : Sh} {gw T k : Nat} {t : Nat → Ino} {ev ov : Nat → Value} (h : SndR w wr p D S gw T k t ev ov) : T + 1 < wr.heap.size := lt_of_block h.own
theorem SndR.put {w wr : World} {p : Nat} {D : Nat → Prop} {S : Sh} {gw T k : Nat} {t : Nat → Ino} {ev ov : Nat → Value} (h : SndR w wr p D S gw T k t ev ov) (hk : k < 32) {v xv : Value} (hv : HoldsE wr v (gotT S k).ents) (hxv : HoldsN wr xv (ownI S (k : Int)))
    (hs1 : ∀ g, v.ownBlock = some g → g ≠ T ∧ g ≠ T + 1) (hs2 : ∀ g, xv.ownBlock = some g → g ≠ T ∧ g ≠ T + 1) :
    SndR w ((wr.setCells T (k * 18) (inoL (gotT S k) v)).setCell ⟨T + 1, k, none⟩ xv) p D S gw T (k + 1) (setT t k (gotT S k)) (setT ev k v) (setT ov k xv) := by
  have m1 : Mod (fun q => q = T) wr (wr.setCells T (k * 18) (inoL (gotT S k) v)) := Mod.setCells (D := fun q => q = T) T (.inl rfl) _ _ _ (Mod.refl _ wr)
  have m2 : Mod (fun q => q = T + 1) (wr.setCells T (k * 18) (inoL (gotT S k) v)) ((wr.setCells T (k * 18) (inoL (gotT S k) v)).setCell ⟨T + 1, k, none⟩ xv) := (Mod.refl (fun q => q = T + 1) _).setCell (a := ⟨T + 1, k, none⟩) (.inl rfl) _
  have hbt := h.bt
  have hE : ∀ (u : Value) (es : List En), HoldsE wr u es → (∀ g, u.ownBlock = some g → g ≠ T ∧ g ≠ T + 1) → HoldsE ((wr.setCells T (k * 18) (inoL (gotT S k) v)).setCell ⟨T + 1, k, none⟩ xv) u es := fun u es hu hs => (hu.mod m1 (fun _ g hg => (hs g hg).1)).mod m2 (fun _ g hg => (hs g hg).2)
  have hN : ∀ (u : Value) (es : List Nat), HoldsN wr u es → (∀ g, u.ownBlock = some g → g ≠ T ∧ g ≠ T + 1) → HoldsN ((wr.setCells T (k * 18) (inoL (gotT S k) v)).setCell ⟨T + 1, k, none⟩ xv) u es := fun u es hu hs => (hu.mod m1 (fun _ g hg => (hs g hg).1)).mod m2 (fun _ g hg => (hs g hg).2)
  refine ⟨(h.sheet.mod m1 (fun b hb e => by have := h.apart b hb; have e' : b = T := e; omega)).mod m2 (fun b hb e => by have := h.apart b hb; have e' : b = T + 1 := e; omega),
    (h.words.still m1 (by have := h.gwt; show ¬ gw = T; omega)).still m2 (by have := h.gwt; show ¬ gw = T + 1; omega),
    (h.tab.set k hk (got_len h.sheet.ok hk) v).mod m2 (by show ¬ T = T + 1; omega), (h.own.mod m1 (by show ¬ T + 1 = T; omega)).set k xv, fun q hq => ?_, fun q hq => ?_, fun q hq => ?_,
    (Mod.setCells T (.inr hbt) _ _ _ h.mod).setCell (.inr (show w.heap.size ≤ T + 1 by omega)) _, h.bt, h.apart, h.gwt, fun q hq => ?_, fun q hq => ?_⟩
  · by_cases e : q = k
    · subst e; rw [setT_same, setT_same]; exact hE _ _ hv hs1
    · rw [setT_ne _ _ e, setT_ne _ _ e]; exact hE _ _ (h.holds q hq) (h.sep q hq)
  · by_cases e : q = k
    · subst e; rw [setT_same, if_pos (by omega)]; exact hN _ _ hxv hs2
    · rw [setT_ne _ _ e]
      have := hN _ _ (h.owns q hq) (h.sepo q hq)
      by_cases e2 : q < k
      · rw [if_pos e2] at this; rw [if_pos (by omega)]; exact this
      · rw [if_neg e2] at this; rw [if_neg (by omega)]; exact this
  · by_cases e : q = k
    · subst e; rw [setT_same]
    · rw [setT_ne _ _ e]; exact h.got q (by omega)
  · by_cases e : q = k
    · subst e; rw [setT_same]; exact hs1
    · rw [setT_ne _ _ e]; exact h.sep q hq
  · by_cases e : q = k
    · subst e; rw [setT_same]; exact hs2
    · rw [setT_ne _ _ e]; exact h.sepo q hq
abbrev z32s : Array Value := #[.slice none 0 0, .slice none 0 0, .slice none 0 0, .slice none 0 0, .slice none 0 0, .slice none 0 0, .slice none 0 0, .slice none 0 0, .slice none 0 0, .slice none 0 0, .slice none 0 0, .slice none 0 0, .slice none 0 0, .slice none 0 0, .slice none 0 0, .slice none 0 0, .slice none 0 0, .slice none 0 0, .slice none 0 0, .slice none 0 0, .slice none 0 0, .slice none 0 0, .slice none 0 0, .slice none 0 0, .slice none 0 0, .slice none 0 0, .slice none 0 0, .slice none 0 0, .slice none 0 0, .slice none 0 0, .slice none 0 0, .slice none 0 0]
theorem OwnB.new (w : World) : OwnB (w.alloc (.cells z32s 77)) w.heap.size nilT := heap_alloc_new _ _
end Go.Proofs.Ytlopdbhjdijlmaa

namespace Go.Proofs.Ytlopdbhjdijlmaa
open Go.ChangeShapes Go.WideShapes Go.ChangeAt Go.RowKit
set_option linter.unusedSimpArgs false
set_option linter.unusedVariables false

/-- Few inodes, each of few entries. -/
def FewLP (l : List InV) (n : Nat) : Prop := ∀ k, k < n → fewB (l.getD k default).n = true
open Classical in
noncomputable def fewX (l : List InV) : Bool := decide (l.length ≤ 32 ∧ FewLP l l.length)
open Classical in
theorem fewX_true {l : List InV} (h : l.length ≤ 32 ∧ FewLP l l.length) : fewX l = true := by unfold fewX; exact decide_eq_true h
open Classical in
theorem fewX_false {l : List InV} (h : ¬ (l.length ≤ 32 ∧ FewLP l l.length)) : fewX l = false := by unfold fewX; exact decide_eq_false h
set_option maxRecDepth 20000 in
set_option maxHeartbeats 2000000 in
theorem few10x {w : World} {lv : Value} {l : List InV} (hl : HoldsV w lv l) :
    Calls Try.prog 34 #[lv] w fun e w' => e = .returned (.bool (fewX l)) ∧ Below w.heap.size w w' := by
  have HL := Lib.hid hl
  obtain ⟨ao, c, rfl, hlc, hcm, -⟩ := hl
  obtain ⟨m, hm⟩ : ∃ m, m = l.length := ⟨_, rfl⟩
  rw [← hm] at HL hlc ⊢
  have HM := Lib.hid hm
  obtain ⟨bb, hbb⟩ : ∃ b, b = fewX l := ⟨_, rfl⟩
  rw [← hbb]
  have HBB := Lib.hid hbb
  unfold maxLen at hcm
  clear hm hbb
  go_enter Try.func34, Try.ntmps34
  go_wp2_with fail
  go_loopg [3] m (fun gk iv wr => ∃ k : Nat, k + gk = m ∧ iv = .int .i64 (k : Nat) ∧ Hid (FewLP l k) ∧ Hid (Mod nob w wr))
  case atStart => exact ⟨0, by omega, rfl, (fun j h => by omega), Mod.refl nob w⟩
  case round =>
    obtain ⟨k, hk, rfl, HFP, HX⟩ := hrel
    have HBE : Hid (Below w.heap.size w wr) := nob_mod_below HX.out
    by_cases hlt : k < m ∧ k < 32
    · obtain ⟨hkm, hk32⟩ := hlt
      have hki : (k : Int) < (m : Int) := by omega
      have hki2 : (k : Int) < 32 := by omega
      obtain ⟨ao', c', e, -, -, hc⟩ := HL.out.old HX.out (fun _ h => h.elim)
      rw [← HM.out] at e
      simp only [Value.slice.injEq] at e
      obtain ⟨rfl, -, rfl⟩ := e
      obtain ⟨⟨g, o, rfl, hr⟩, hno, hev⟩ := hc k (by rw [← HM.out]; exact hkm)
      obtain ⟨n, hn⟩ : ∃ n, n = (l.getD k default).n := ⟨_, rfl⟩
      obtain ⟨ev, hv⟩ : ∃ ev, ev = (l.getD k default).ev := ⟨_, rfl⟩
      rw [← hn, ← hv] at hr hev
      rw [← hn] at hno
      have HR := Lib.hid hr
      have HF := Lib.hid (few6 hno hev)
      have HSA : Hid ((Try.prog.info? 25).map (·.size) = some (inoL n ev).length) := by unfold Hid; rw [inoL_len hno.len]; exact Try.info18
      obtain ⟨b, hb⟩ : ∃ b, b = fewB n := ⟨_, rfl⟩
      rw [← hb] at HF
      have HBN : Hid (b = fewB (l.getD k default).n) := by unfold Hid; rw [hb, hn]
      have HF2 : Hid (Calls Try.prog 10 #[.agg (inoL n ev).toArray] wr fun e w' => e = .returned (.bool b) ∧ Below wr.heap.size wr w') := HF.out
      clear hc hr hno hev hn hv hb HF
      cases b with
      | true =>
        go_wp2_with (first
          | (with_reducible refine wpList_load_mid (op := ⟨some 17, _, _, _, _, _⟩) rfl 25 _ rfl g (o + k * 18) rfl (inoL n ev) _ HR.out Try.underlying25 rfl HSA.out ?_)
          | (go_at_call 10; (with_reducible refine HF2.out.mono ?_); (rintro e w2 ⟨rfl, hb2⟩)))
        have HX2 : Hid (Mod nob w w2) := HX.out.step (mod_of_below hb2) (fun _ h => h)
        clear hb2
        go_roundg (gk - 1)
        case measure => omega
        case rel => exact ⟨k + 1, by omega, by go_num, (fun j hj => by
            by_cases e : j = k
            · subst e; exact HBN.out.symm
            · exact HFP.out j (by omega)), HX2.out⟩
      | false =>
        go_wp2_with (first
          | (with_reducible refine wpList_load_mid (op := ⟨some 17, _, _, _, _, _⟩) rfl 25 _ rfl g (o + k * 18) rfl (inoL n ev) _ HR.out Try.underlying25 rfl HSA.out ?_)
          | (go_at_call 10; (with_reducible refine HF2.out.mono ?_); (rintro e w2 ⟨rfl, hb2⟩)))
        have HX2 : Hid (Mod nob w w2) := HX.out.step (mod_of_below hb2) (fun _ h => h)
        clear hb2
        have HBF : Hid (bb = false) := by
          unfold Hid
          rw [HBB.out]
          refine fewX_false (fun h => ?_)
          have := h.2 k (by rw [← HM.out]; exact hkm)
          rw [← HBN.out] at this
          cases this
        go_ret
        exact ⟨by rw [HBF.out]; rfl, nob_mod_below HX2.out⟩
    · rcases (show ¬ k < m ∨ (k < m ∧ ¬ k < 32) by omega) with h | ⟨h, h2⟩
      all_goals
        try have hki : ¬ (k : Int) < (m : Int) := by omega
        try have hkj : (k : Int) < (m : Int) := by omega
        try have hkl : ¬ (k : Int) < 32 := by omega
        by_cases h32 : m ≤ 32
        · have hd : decide ((m : Int) ≤ 32) = true := decide_eq_true (by omega)
          go_wp2_with fail
          have HBF : Hid (bb = true) := by
            unfold Hid
            rw [HBB.out]
            exact fewX_true ⟨by rw [← HM.out]; exact h32, fun j hj => HFP.out j (by rw [← HM.out] at hj; omega)⟩
          go_ret
          exact ⟨by rw [HBF.out]; rfl, HBE.out⟩
        · have hd : decide ((m : Int) ≤ 32) = false := decide_eq_false (by omega)
          go_wp2_with fail
          have HBF : Hid (bb = false) := by
            unfold Hid
            rw [HBB.out]
            exact fewX_false (fun h => h32 (by rw [HM.out]; exact h.1))
          go_ret
          exact ⟨by rw [HBF.out]; rfl, HBE.out⟩
end Go.Proofs.Ytlopdbhjdijlmaa

namespace Go.Proofs.Ytlopdbhjdijlmaa
open Go.ChangeShapes Go.WideShapes Go.ChangeAt Go.RowKit
set_option linter.unusedSimpArgs false
set_option linter.unusedVariables false

def rowN (n : Nat) (f : Nat → Int) : List Int := (List.range n).map f
theorem rowN_length (n : Nat) (f : Nat → Int) : (rowN n f).length = n := by simp [rowN]
theorem rowN_get (n : Nat) (f : Nat → Int) (j : Nat) (hj : j < n) : (rowN n f)[j]? = some (f j) := by
  unfold rowN
  rw [List.getElem?_map, List.getElem?_range hj]
  rfl

theorem holds_rowN {w : World} {B c : Nat} {f : Nat → Int} (h : Words w B c f) : HoldsU w (.slice (some ⟨B, 0, none⟩) 3128 c) (rowN 3128 f) := by
  refine ⟨some ⟨B, 0, none⟩, c, by rw [rowN_length], (by intro h; cases h), ?_, ?_, ?_⟩
  · rw [rowN_length]; obtain ⟨_, _, _, h3, _⟩ := h; exact h3
  · obtain ⟨_, _, _, _, h4, _⟩ := h; exact h4
  · intro ad had j u hj
    cases had
    have hlt : j < 3128 := by
      have := (List.getElem?_eq_some_iff.1 hj).1
      simpa [u64s, rowN_length] using this
    have hadd : (⟨B, 0, none⟩ : Addr).add j = ⟨B, j, none⟩ := by unfold Addr.add; split <;> simp_all
    rw [hadd, h.cell j hlt, ← hj]
    unfold u64s
    rw [List.getElem?_map, rowN_get _ _ _ hlt]
    rfl

theorem sheet_words {w : World} {p : Nat} {D : Nat → Prop} {S : Sh} (h : SheetAt w p D S) :
    Calls Try.prog 38 #[.pointer (some ⟨p, 0, none⟩)] w fun e w' => ∃ g c, e = .returned (.slice (some ⟨g, 0, none⟩) 3128 c) ∧ (3128 ≤ c ∧ c ≤ maxLen) ∧ (∀ j, j < 3128 → w'.cell? ⟨g, j, none⟩ = some (.int .u64 (S.get (j : Int)))) ∧ Below w.heap.size w w' := by
  obtain ⟨pb, nb, cb, cn, wv, h⟩ := h
  have hc1 : w.cell? ⟨p, 1, none⟩ = some (.slice (some ⟨nb, 0, none⟩) 3128 cn) := by rw [cell_of_row _ _ _ _ _ _ h.head]; rfl
  have hcl := clone_u64 (holds_rowN h.now) (by rw [rowN_length]; omega)
  rw [rowN_length] at hcl
  have HCL := Lib.hid hcl
  clear h hcl
  go_enter Try.func38, Try.ntmps38
  go_wp2_with (go_at_call 64; refine HCL.out.mono ?_; rintro e w1 ⟨v', rfl, hown, hb⟩)
  obtain ⟨g, cap, rfl, h1, h2, h3, h4⟩ := own_some hown (by omega)
  go_ret
  refine ⟨g, cap, rfl, ?_, fun j hj => ?_, hb⟩
  · obtain ⟨ao, c, e, h5, h6, -⟩ := own_shape hown
    simp only [Value.slice.injEq] at e
    obtain ⟨-, -, rfl⟩ := e
    exact ⟨h5, h6⟩
  · have := hown.cells rfl j (.int .u64 (S.now j)) (by unfold u64s; rw [List.getElem?_map, rowN_get _ _ _ hj]; rfl)
    rw [Addr.add_lit, Nat.zero_add] at this
    rw [this, get_natx S j hj]
end Go.Proofs.Ytlopdbhjdijlmaa

namespace Go.Proofs.Ytlopdbhjdijlmaa
open Go.ChangeShapes Go.WideShapes Go.ChangeAt Go.RowKit
set_option linter.unusedSimpArgs false
set_option linter.unusedVariables false

set_option maxRecDepth 20000 in
set_option maxHeartbeats 8000000 in
theorem law_sound {w : World} {lv bv : Value} {l : List InV} {ps : List (Int × Int)} (hl : HoldsV w lv l) (hp : HoldsPr w bv ps) (hpo : PrOk ps) (fx : Bool) :
    Calls Try.prog 7 #[lv, bv, .bool fx] w fun e w' => e = .returned (.bool true) ∧ Below w.heap.size w w' := by
  have HAW : Hid (∀ wx, Calls Try.prog 33 #[] wx fun e w' => e = .returned (.bool true) ∧ Below wx.heap.size wx w') := fun wx => awake10 wx
  have HL := Lib.hid hl
  have HFW : Hid (∀ wx, Mod nob w wx → Calls Try.prog 34 #[lv] wx fun e w' => e = .returned (.bool (fewX l)) ∧ Below wx.heap.size wx w') := fun wx hm => few10x (HL.out.old hm (fun _ h => h.elim))
  have HMD : Hid (∀ wx, Mod nob w wx → Calls Try.prog 35 #[lv, .bool fx] wx fun e w' => ∃ (p : Nat) (D : Nat → Prop) (S : Sh), e = .returned (.pointer (some ⟨p, 0, none⟩)) ∧ SheetAt w' p D S ∧ S.was.length ≤ 200000 ∧ (∀ b, D b → wx.heap.size ≤ b) ∧ Below wx.heap.size wx w') := fun wx hm => made10 (HL.out.old hm (fun _ h => h.elim)) fx
  have HPP : Hid (∀ wx, Mod nob w wx → HoldsPr wx bv ps) := fun wx hm => hp.mod hm (fun _ _ _ h => h)
  have HPO := Lib.hid hpo
  obtain ⟨bo, hbo⟩ : ∃ b, b = fewX l := ⟨_, rfl⟩
  rw [← hbo] at HFW
  obtain ⟨ao, c, rfl, hlc, hcm, -⟩ := hl
  obtain ⟨m, hm⟩ : ∃ m, m = l.length := ⟨_, rfl⟩
  rw [← hm] at HL HFW HMD hlc ⊢
  obtain ⟨ba, bc, rfl, hbc, hbm, -⟩ := hp
  obtain ⟨m0, hm0⟩ : ∃ m0, m0 = ps.length := ⟨_, rfl⟩
  rw [← hm0] at HPP hbc ⊢
  have HM0 := Lib.hid hm0
  unfold maxLen at hbm
  clear hm HL hpo hbo hm0
  go_enter Try.func7, Try.ntmps7
  by_cases hgo : bo = true ∧ m0 ≤ 6
  · obtain ⟨rfl, hm6⟩ := hgo
    have hm6i : ¬ (6 : Int) < (m0 : Int) := by omega
    go_upto_if 33 with (first
      | (go_at_call 33; (with_reducible refine (HAW.out _).mono ?_); (rintro e w1 ⟨rfl, hb1⟩; have HX1 : Hid (Mod nob w w1) := mod_of_below hb1; clear hb1))
      | (go_at_call 34; (with_reducible refine (HFW.out _ HX1.out).mono ?_); (rintro e w2 ⟨rfl, hb2⟩)))
    have HX2 : Hid (Mod nob w w2) := HX1.out.step (mod_of_below hb2) (fun _ h => h)
    have HMD2 := Lib.hid (HMD.out _ HX2.out)
    clear hb2 HX1 HFW HMD HAW
    go_upto_region 4 with (go_at_call 35; (with_reducible refine HMD2.out.mono ?_); (rintro e w5 ⟨p, D0, S0, rfl, hs, hlen, hnew, hb5⟩))
    have HX5 : Hid (Mod nob w w5) := HX2.out.step (mod_of_below hb5) (fun _ h => h)
    have HDN : Hid (∃ S D, SheetAt w5 p D S ∧ S.was.length ≤ 200000 + 0 ∧ (∀ b, D b → w.heap.size ≤ b) ∧ Mod nob w w5) := ⟨S0, D0, hs, hlen, fun b hb => Nat.le_trans HX2.out.size (hnew b hb), HX5.out⟩
    clear hs hlen hnew hb5 HMD2 HX2 HX5
    go_wp2_with fail
    go_loopg [8] m0 (fun gk iv wr => ∃ k : Nat, k + gk = m0 ∧ iv = .int .i64 (k : Nat) ∧ Hid (∃ S D, SheetAt wr p D S ∧ S.was.length ≤ 200000 + k ∧ (∀ b, D b → w.heap.size ≤ b) ∧ Mod nob w wr))
    case atStart => exact ⟨0, by omega, rfl, HDN.out⟩
    case round =>
      obtain ⟨k, hk, rfl, HKS⟩ := hrel
      clear HDN
      obtain ⟨S, D, hs, hwas, hnew, hmod⟩ := HKS.out
      by_cases hlt : k < m0
      · have hki : (k : Int) < (m0 : Int) := by omega
        have hk0 : (0 : Int) ≤ (k : Int) := Int.natCast_nonneg _
        obtain ⟨ao', c', e, -, -, hcx⟩ := HPP.out wr hmod
        rw [← HM0.out] at e
        simp only [Value.slice.injEq] at e
        obtain ⟨rfl, -, rfl⟩ := e
        have hkl : k < ps.length := by have := HM0.out; omega
        obtain ⟨g, o, rfl, d1, d2⟩ := hcx k hkl
        have hpk := HPO.out k hkl
        obtain ⟨x, hxx⟩ : ∃ x, x = (ps.getD k (0, 0)).1 := ⟨_, rfl⟩
        obtain ⟨y, hyy⟩ : ∃ y, y = (ps.getD k (0, 0)).2 := ⟨_, rfl⟩
        rw [← hxx, ← hyy] at hpk
        rw [← hxx] at d1
        rw [← hyy] at d2
        obtain ⟨⟨x0, x1⟩, y0, y1⟩ := hpk
        have HPUT := Lib.hid (sheet_put (hs.mod (D0 := nob) ((Mod.refl nob wr).drew) (fun _ _ h => h)) (by omega) x y y0 y1)
        have HSS := Lib.hid hs
        have HWA := Lib.hid hwas
        have HNW := Lib.hid hnew
        have HMO := Lib.hid hmod
        clear hcx hxx hyy hkl hs hwas hnew hmod HKS
        go_wp2_with fail
        go_still_tail 11, (by kernel_rfl)
        go_wp2_with (go_at_call 31; with_reducible refine HPUT.out.mono ?_; rintro e w6 ⟨rfl, h6, m6⟩)
        have HN6 : Hid (∃ S D, SheetAt w6 p D S ∧ S.was.length ≤ 200000 + (k + 1) ∧ (∀ b, D b → w.heap.size ≤ b) ∧ Mod nob w w6) := by
          refine ⟨_, _, h6, ?_, fun b hb => ?_, HMO.out.drew.trans (m6.mono (fun b hb e => .inr ⟨HNW.out b e, hb⟩))⟩
          · have h1 := Sh.put_was_le S x y
            have h2 := HWA.out
            omega
          · rcases hb with hb | hb
            · exact HNW.out b hb
            · have := HMO.out.drew.size; omega
        clear h6 m6
        go_wp2_with fail
        go_roundg (gk - 1)
        case measure => omega
        case rel => exact ⟨k + 1, by omega, by go_num, HN6⟩
      · obtain rfl : k = m0 := by omega
        have hki : ¬ (k : Int) < (k : Int) := by omega
        have HS := Lib.hid hs
        have HWD := Lib.hid (sheet_words hs)
        have HNW := Lib.hid hnew
        have HMO := Lib.hid hmod
        clear hwas hs hnew hmod HKS HPP HPO
        go_upto_region 12 with (go_at_call 38; (with_reducible refine HWD.out.mono ?_); (rintro e w6 ⟨gw, wc, rfl, hwc, hwd, hb6⟩))
        have HT7 : Hid (TabB ((w6.alloc (.cells Try.zeroCells44 44)).alloc (.cells z32s 77)) w6.heap.size inoT0 nilT) := by
          have : TabB (w6.alloc (.cells Try.zeroCells44 44)) w6.heap.size inoT0 nilT := by rw [zeroT_eq]; exact TabB.new len13_0 w6
          exact this.mod ((Mod.refl nob _).alloc _) (fun h => h)
        have HO7 : Hid (OwnB ((w6.alloc (.cells Try.zeroCells44 44)).alloc (.cells z32s 77)) (w6.heap.size + 1) nilT) := by
          have := OwnB.new (w6.alloc (.cells Try.zeroCells44 44))
          rw [show (w6.alloc (.cells Try.zeroCells44 44)).heap.size = w6.heap.size + 1 by simp] at this
          exact this
        have HM67 : Hid (Mod nob w6 ((w6.alloc (.cells Try.zeroCells44 44)).alloc (.cells z32s 77))) := ((Mod.refl nob w6).alloc _).alloc _
        have HM56 : Hid (Mod nob wr w6) := mod_of_below hb6
        generalize (w6.alloc (.cells Try.zeroCells44 44)).alloc (.cells z32s 77) = w7 at *
        obtain ⟨T, hT⟩ : ∃ T, T = w6.heap.size := ⟨_, rfl⟩
        rw [← hT] at HT7 HO7 ⊢
        have HMW : Hid (Mod nob w w6) := HMO.out.step HM56.out (fun _ h => h)
        have HR0 : Hid (SndR w w7 p D S gw T 0 inoT0 nilT nilT) := by
          refine ⟨(HS.out.mod HM56.out (fun _ _ h => h)).mod HM67.out (fun _ _ h => h), WordsH.still (w := w6) hwd HM67.out (fun h => h), HT7.out, HO7.out, fun q hq => HoldsE.nil _, fun q hq => ?_, fun q hq => absurd hq (by omega), HMW.out.step HM67.out (fun _ h => h), by rw [hT]; exact HMW.out.size, fun b hb => ?_, ?_, (fun q hq g e => by cases e), (fun q hq g e => by cases e)⟩
          · rw [if_neg (by omega)]; exact HoldsN.nil _
          · have h1 := HS.out.lt b hb
            have h2 := HM56.out.size
            omega
          · have := World.block_lt_of_cell? w6 _ (hwd 0 (by omega))
            simp only at this
            omega
        obtain ⟨hwc1, hwc2⟩ := hwc
        have HWC : Hid (3128 ≤ wc ∧ wc ≤ maxLen) := ⟨hwc1, hwc2⟩
        clear hwd hb6 hT HT7 HO7 HM67 HM56 HMW HWD HS HNW HMO hwc1 hwc2
        have hg0 : Value.bool true = .bool (gotB S 0) := by rw [gotB_zero]
        go_wp2_with fail
        go_loopg [12, 13] 32 (fun gk gv iv wr => ∃ (k : Nat) (t : Nat → Ino) (ev ov : Nat → Value), k + gk = 32 ∧ iv = .int .i64 (k : Nat) ∧ gv = .bool (gotB S k) ∧ Hid (SndR w wr p D S gw T k t ev ov))
        case atStart => exact ⟨0, _, _, _, by omega, rfl, hg0, HR0.out⟩
        case round =>
          obtain ⟨k, t, ev, ov, hk, rfl, rfl, HR⟩ := hrel
          clear HR0 hg0
          have hk0 : (0 : Int) ≤ (k : Int) := Int.natCast_nonneg _
          by_cases hlt : k < 32
          · have hki : (k : Int) < 32 := by omega
            have HGX := Lib.hid (getX10 HR.out.sheet hlt)
            have HL13 : Hid ((gotT S k).bl.length = 13) := got_len HR.out.sheet.ok hlt
            obtain ⟨E, hE⟩ : ∃ E, E = getE S (k : Int) := ⟨_, rfl⟩
            rw [← hE] at HGX
            have HEE := Lib.hid hE
            obtain ⟨n, hn⟩ : ∃ n, n = gotT S k := ⟨_, rfl⟩
            rw [← hn] at HGX HL13
            have HNN := Lib.hid hn
            clear hE hn
            go_upto_region 16 with (first
              | (go_at_call 26; (with_reducible refine HGX.out.mono ?_); (rintro e w8 ⟨v, xv, rfl, hv, hxv, hge, hgx, hb8⟩); (have HV := Lib.hid hv); (have HXV := Lib.hid hxv); (have HGE := Lib.hid hge); (have HGG := Lib.hid hgx); (have HM8 : Hid (Mod nob wr w8) := mod_of_below hb8); (have HV1 : Hid (v.oneCell' = true) := by obtain ⟨a, c, e, -⟩ := hv; unfold Hid; rw [e]; rfl); (have HSZ : Hid ((inoL n v).toArray.size = 18) := by unfold Hid; rw [List.size_toArray]; exact inoL_len HL13.out _); (have HISZ : Hid ((Try.prog.info? 25).map (·.size) = some (inoL n v).toArray.size) := by unfold Hid; rw [HSZ.out]; exact Try.info18); (have HONE : Hid ((inoL n v).toArray.all (·.oneCell') = true) := all_oneCell_toArray (inoL_one HV1.out)); (have HTH : Hid ((w8.alloc (.cells z18 25)).there w8.heap.size 0 (inoL n v).toArray.size) := by unfold Hid; rw [HSZ.out]; exact ino_there w8 _); (have HROW := Lib.hid (ino_row w8 25 (inoL n v) (inoL_len HL13.out _))); (clear hv hxv hge hgx hb8))
              | (with_reducible refine wpList_store_mid (op := ⟨none, _, _, _, _, _⟩) rfl 25 _ _ rfl w8.heap.size 0 (inoL n v).toArray rfl rfl HTH.out HISZ.out HONE.out ?_))
            try simp only [Act.put]
            have HIX : Hid (InoB ((w8.alloc (.cells z18 25)).setCells w8.heap.size 0 (inoL n v)) w8.heap.size n v) := ⟨HROW.out.1, HL13.out⟩
            have HMX : Hid (Mod nob w8 ((w8.alloc (.cells z18 25)).setCells w8.heap.size 0 (inoL n v))) := mod_of_below HROW.out.2
            clear HROW HTH
            generalize (w8.alloc (.cells z18 25)).setCells w8.heap.size 0 (inoL n v) = w9 at *
            obtain ⟨Z, hZ⟩ : ∃ Z, Z = w8.heap.size := ⟨_, rfl⟩
            rw [← hZ] at HIX ⊢
            have hwrlt := HR.out.lt
            have hz8 := HM8.out.size
            have HR9 : Hid (SndR w w9 p D S gw T k t ev ov) := (HR.out.still HM8.out).still HMX.out
            have HV9 : Hid (HoldsE w9 v n.ents) := HV.out.mod HMX.out (fun _ _ _ h => h)
            have HX9 : Hid (HoldsN w9 xv (ownI S (k : Int))) := HXV.out.mod HMX.out (fun _ _ _ h => h)
            have HRZ := Lib.hid (HIX.out.at.range HL13.out)
            have HSX : Hid ((Try.prog.info? 25).map (·.size) = some (inoL n v).length) := by unfold Hid; rw [inoL_len HL13.out]; exact Try.info18
            have HTH : Hid (w9.there T (k * 18) (inoL n v).toArray.size) := by unfold Hid; rw [HSZ.out]; exact HR9.out.tab.there (k * 18) 18 (by omega)
            have HS1 : Hid (∀ g, v.ownBlock = some g → g ≠ T ∧ g ≠ T + 1) := fun g hg => by have := HGE.out g hg; omega
            have HS2 : Hid (∀ g, xv.ownBlock = some g → g ≠ T ∧ g ≠ T + 1) := fun g hg => by have := HGG.out g hg; omega
            have HRN := Lib.hid (HR9.out.put hlt (v := v) (xv := xv) (by rw [← HNN.out]; exact HV9.out) HX9.out HS1.out HS2.out)
            rw [← HNN.out] at HRN
            obtain ⟨xa, XL, xc, hxe⟩ : ∃ xa XL xc, xv = Value.slice xa XL xc := by obtain ⟨a, c, e, -⟩ := HX9.out; exact ⟨_, _, _, e⟩
            subst hxe
            clear hZ HR HV HXV HGE HGG HM8 HMX HIX HGX HS1 HS2 hwrlt hz8
            go_upto_region 17 with (first
              | (with_reducible refine wpList_load_mid (op := ⟨some 70, _, _, _, _, _⟩) rfl 25 _ rfl Z 0 rfl (inoL n v) _ HRZ.out Try.underlying25 rfl HSX.out ?_)
              | (with_reducible refine wpList_store_mid (op := ⟨none, _, _, _, _, _⟩) rfl 25 _ _ rfl T (k * 18) (inoL n v).toArray rfl rfl HTH.out HISZ.out HONE.out ?_))
            try simp only [Act.put]
            have hO10 : OwnB (w9.setCells T (k * 18) (inoL n v)) (T + 1) ov := HR9.out.own.mod (Mod.setCells (D := fun q => q = T) T (.inl rfl) _ _ _ (Mod.refl _ w9)) (by show ¬ T + 1 = T; omega)
            have co := hO10.cell k hlt
            have fo := hO10.frozen k
            clear hO10 HRZ HSX HTH HISZ HONE HSZ HV1 HR9 HV9 HX9
            generalize w9.setCells T (k * 18) (inoL n v) = w10 at *
            go_upto_region 18 with (fail)
            generalize w10.setCell ⟨T + 1, k, none⟩ (.slice xa XL xc) = w11 at *
            clear co fo
            have hsu := gotB_succ S k
            rw [← HEE.out] at hsu
            obtain ⟨gd, hgd⟩ : ∃ b, b = gotB S k := ⟨_, rfl⟩
            rw [← hgd] at hsu ⊢
            have HSU := Lib.hid hsu
            clear hsu hgd
            cases gd with
            | false =>
              have HGN : Hid (Value.bool false = .bool (gotB S (k + 1))) := by unfold Hid; rw [HSU.out]; rfl
              go_wp2_with fail
              go_roundg (gk - 1)
              case measure => omega
              case rel => exact ⟨k + 1, _, _, _, by omega, by go_num, HGN.out, HRN.out⟩
            | true =>
              by_cases he0 : E = 0
              · subst he0
                have HGN : Hid (Value.bool true = .bool (gotB S (k + 1))) := by unfold Hid; rw [HSU.out]; rfl
                go_wp2_with fail
                go_roundg (gk - 1)
                case measure => omega
                case rel => exact ⟨k + 1, _, _, _, by omega, by go_num, HGN.out, HRN.out⟩
              · have hb0 : (E == 0) = false := beq_eq_false_iff_ne.2 he0
                by_cases he2 : E = 2
                · subst he2
                  have HGN : Hid (Value.bool true = .bool (gotB S (k + 1))) := by unfold Hid; rw [HSU.out]; rfl
                  go_wp2_with fail
                  go_roundg (gk - 1)
                  case measure => omega
                  case rel => exact ⟨k + 1, _, _, _, by omega, by go_num, HGN.out, HRN.out⟩
                · have hb2 : (E == 2) = false := beq_eq_false_iff_ne.2 he2
                  have HGN : Hid (Value.bool false = .bool (gotB S (k + 1))) := by unfold Hid; rw [HSU.out, hb0, hb2]; rfl
                  go_wp2_with fail
                  go_roundg (gk - 1)
                  case measure => omega
                  case rel => exact ⟨k + 1, _, _, _, by omega, by go_num, HGN.out, HRN.out⟩
          · obtain rfl : k = 32 := by omega
            have hki : ¬ ((32 : Nat) : Int) < 32 := by omega
            have HSN := Lib.hid (sound10 HR.out.sheet)
            have HOK : Hid S.Ok := HR.out.sheet.ok
            go_upto_region 20 with (go_at_call 36; (with_reducible refine HSN.out.mono ?_); (rintro e w8 ⟨⟨kk, ok, rfl, hsd⟩, hb8⟩))
            have HR8 := Lib.hid (HR.out.still (mod_of_below hb8))
            have HSD := Lib.hid hsd
            clear hb8 hsd HSN HR
            have htl : tabL t ev = tabL (gotT S) ev := tabTo_congr 32 (fun i hi => ⟨HR8.out.got i hi, rfl⟩)
            have HH8 : Hid (HoldsT w8 (gotT S) ev) := fun q hq => by have := HR8.out.holds q hq; rw [HR8.out.got q hq] at this; exact this
            have HT8 : Hid (TabB w8 T (gotT S) ev) := ⟨by rw [← htl]; exact HR8.out.tab.1, fun j hj => got_len HOK.out hj⟩
            have HX8 : Hid (HoldsX w8 ov (fun q => ownI S (q : Int))) := ⟨fun q hq => by have := HR8.out.owns q hq; rw [if_pos hq] at this; exact this, fun q hq => (ownI_law HOK.out (q : Int)).2, fun q hq => (ownI_law HOK.out (q : Int)).1⟩
            have HWG := Lib.hid (ref_wrong10 (gotB S 32) HOK.out HR8.out.words HWC.out (got_tabT HOK.out HH8.out) HX8.out)
            rw [gotB_all] at HWG ⊢
            obtain ⟨gd, hgd⟩ : ∃ b, b = inosB S := ⟨_, rfl⟩
            rw [← hgd] at HWG ⊢
            have HGD := Lib.hid hgd
            have HLN : Hid (Len13 (gotT S)) := fun j hj => got_len HOK.out hj
            have HRT := Lib.hid HT8.out.all
            have HRO := Lib.hid HR8.out.own.all
            have HISL : Hid ((Try.prog.info? 44).map (·.size) = some (tabL (gotT S) ev).length) := by unfold Hid; rw [tabL_len HLN.out]; exact Try.info576
            have HISO : Hid ((Try.prog.info? 77).map (·.size) = some (ownL ov).length) := by unfold Hid; rw [ownL_len]; kernel_rfl
            have HU44 := Lib.hid Try.underlying44
            have HU77 := Lib.hid Try.underlying77
            clear htl hgd
            go_upto_region 21 with (first
              | (with_reducible refine wpList_load_mid (op := ⟨some 90, _, _, _, _, _⟩) rfl 44 _ rfl T 0 rfl (tabL (gotT S) ev) _ HRT.out HU44.out rfl HISL.out ?_)
              | (with_reducible refine wpList_load_mid (op := ⟨some 91, _, _, _, _, _⟩) rfl 77 _ rfl (T + 1) 0 rfl (ownL ov) _ HRO.out HU77.out rfl HISO.out ?_)
              | (go_at_call 39; (with_reducible refine HWG.out.mono ?_); (rintro e w9 ⟨⟨k2, rfl, hwg⟩, hb9⟩)))
            have HM9 : Hid (Mod nob w8 w9) := mod_of_below hb9
            have hkk := snd_wrg (fun j hj hp => sev_wrg (xs := fun q => ownI S (q : Int)) HOK.out (fun q hq => rfl) j hj hp) HSD.out (by rw [← HGD.out]; exact hwg)
            obtain ⟨rfl, hok2⟩ := hkk
            have HT9 : Hid (TabB w9 T (gotT S) ev) := HT8.out.mod HM9.out (fun h => h)
            have HH9 : Hid (HoldsT w9 (gotT S) ev) := HH8.out.still HM9.out
            have HS9 : Hid (SheetAt w9 p D S) := HR8.out.sheet.mod HM9.out (fun _ _ h => h)
            have HW9 : Hid (Mod nob w w9) := HR8.out.mod.step HM9.out (fun _ h => h)
            have HOKK := Lib.hid hok2
            clear hb9 hwg hok2 HWG HRT HRO HSD HX8 HR8 HH8 HT8 HM9 HISO HU77
            have HRT9 : Hid (∀ wx, Mod nob w9 wx → wx.rangeAt T 0 (tabL (gotT S) ev)) := fun wx hm => (HT9.out.mod hm (fun h => h)).all
            have HCN := Lib.hid (counts10 HS9.out)
            obtain ⟨ct, hct⟩ : ∃ ct : Nat → Nat, ct = fun i => cntT (gotT S) i 32 := ⟨_, rfl⟩
            rw [← hct] at HCN
            have HCT : Hid (∀ i, ct i = cntT (gotT S) i 32) := fun i => by rw [hct]
            have HI32 : Hid ((Try.prog.info? 79).map (·.size) = some (intsL ct).toArray.size) := by unfold Hid; rw [List.size_toArray, intsL_len]; exact Try.info32
            have HON32 : Hid ((intsL ct).toArray.all (·.oneCell') = true) := all_oneCell_toArray (intsL_one ct)
            clear hct HS9 HT9
            by_cases hz : kk = 0
            all_goals
              try subst hz
              try
                have hkb : ((kk : Int) == 0) = false := by
                  have : ¬ (kk : Int) = 0 := by omega
                  simpa using this
              obtain rfl := HOKK.out
              first
                | rw [show decide ((0 : Nat) = 0) = true from rfl]
                | rw [show decide (kk = 0) = false from decide_eq_false hz]
              clear HOKK
              go_upto_region 23 with (fail)
              go_upto_region 24 with (first
                | (go_at_call 40; (with_reducible refine HCN.out.mono ?_); (rintro e wa ⟨rfl, hba⟩); (have HMa : Hid (Mod nob w9 wa) := mod_of_below hba); (have HNW := Lib.hid (Ints32.new wa)); (have HTH : Hid ((wa.alloc (.cells z32n 79)).there wa.heap.size 0 (intsL ct).toArray.size) := by unfold Hid; rw [show (intsL ct).toArray.size = 32 by rw [List.size_toArray, intsL_len]]; exact HNW.out.there); (clear hba))
                | (with_reducible refine wpList_store_mid (op := ⟨none, _, _, _, _, _⟩) rfl 79 _ _ rfl wa.heap.size 0 (intsL ct).toArray rfl rfl HTH.out HI32.out HON32.out ?_))
              try simp only [Act.put]
              have HIC : Hid (Ints32 ((wa.alloc (.cells z32n 79)).setCells wa.heap.size 0 (intsL ct)) wa.heap.size ct) := HNW.out.whole ct
              have HMb : Hid (Mod nob wa ((wa.alloc (.cells z32n 79)).setCells wa.heap.size 0 (intsL ct))) := Mod.setCells wa.heap.size (.inr (Nat.le_refl _)) _ _ _ ((Mod.refl nob wa).alloc _)
              generalize (wa.alloc (.cells z32n 79)).setCells wa.heap.size 0 (intsL ct) = wb at *
              obtain ⟨C, hC⟩ : ∃ C, C = wa.heap.size := ⟨_, rfl⟩
              rw [← hC] at HIC ⊢
              have HMC : Hid (Mod nob w9 wb) := HMa.out.step HMb.out (fun _ h => h)
              clear hC HNW HTH HMa HMb HCN HI32 HON32
              obtain ⟨AT, hAT⟩ : ∃ v, v = Value.agg (tabL (gotT S) ev).toArray := ⟨_, rfl⟩
              have HAT := Lib.hid hAT
              clear hAT
              go_wp2_with fail
              go_loopg [21] 32 (fun gk iv wr => ∃ i : Nat, i + gk = 32 ∧ iv = .int .i64 (i : Nat) ∧ Hid (Mod nob wb wr))
              case atStart => exact ⟨0, by omega, rfl, Mod.refl nob wb⟩
              case round =>
                obtain ⟨i, hi, rfl, HMI⟩ := hrel
                have hi0 : (0 : Int) ≤ (i : Int) := Int.natCast_nonneg _
                by_cases hlt : i < 32
                · have hii : (i : Int) < 32 := by omega
                  have HD : Hid (Mod nob wr wr.drew) := (Mod.refl nob wr).drew
                  obtain ⟨cv, hcv⟩ : ∃ c, c = ct i := ⟨_, rfl⟩
                  have HSS : Hid (∀ wx, Mod nob wr wx → wx.cell? ⟨C, i, none⟩ = some (.int .i64 (cv : Nat)) ∧ wx.rangeAt T 0 (tabL (gotT S) ev)) := fun wx hm => by
                    have hm2 := HMI.out.step hm (fun _ h => h)
                    exact ⟨by rw [hcv]; exact (HIC.out.mod hm2 (fun h => h)).cell i hlt, HRT9.out wx (HMC.out.step hm2 (fun _ h => h))⟩
                  have HCO : Hid (∀ wx, Mod nob wr wx → Calls Try.prog 41 #[AT, .int .i64 (i : Nat)] wx fun e w' => e = .returned (.int .i64 (cv : Nat)) ∧ Below wx.heap.size wx w') := fun wx hm => by
                    rw [hcv, HCT.out i, HAT.out]
                    exact ref_count10 HLN.out (HH9.out.still ((HMC.out.step HMI.out (fun _ h => h)).step hm (fun _ h => h))) (got_ents HOK.out).2 i
                  clear hcv
                  go_upto_region 27 with (fail)
                  refine wp_region_noPanic ?_
                  refine wp_region_held_drew (S := fun wx => wx.cell? ⟨C, i, none⟩ = some (.int .i64 (cv : Nat)) ∧ wx.rangeAt T 0 (tabL (gotT S) ev)) (by kernel_rfl) (HSS.out _ HD.out) (fun hHeld => ?_)
                  refine wpAnyH_take (i := 0) (v := .int .i64 (i : Nat)) rfl (by kernel_rfl) (by kernel_rfl) (by kernel_rfl) (fun _ _ _ h => h) (Or.inl ⟨by kernel_rfl, ?_⟩) hHeld ?_
                  case refine_1 =>
                    rintro wx -
                    go_simp
                  change wpAnyH _ _ _ _ _ _ _ (Act.put _ (some 109) _) _
                  simp only [Act.put, List.setIfInBounds_toArray, List.set_cons_zero, List.set_cons_succ]
                  refine wpAnyH_take (i := 1) (v := .pointer (some ⟨C, i, none⟩)) rfl (by kernel_rfl) (by kernel_rfl) (by kernel_rfl) (fun _ _ _ h => h) (Or.inl ⟨by kernel_rfl, ?_⟩) hHeld ?_
                  case refine_1 =>
                    rintro wx -
                    go_simp
                  change wpAnyH _ _ _ _ _ _ _ (Act.put _ (some 110) _) _
                  simp only [Act.put, List.setIfInBounds_toArray, List.set_cons_zero, List.set_cons_succ]
                  refine wpAnyH_take (i := 2) (v := .int .i64 (cv : Nat)) rfl (by kernel_rfl) (by kernel_rfl) (by kernel_rfl) (fun _ _ _ h => h) (Or.inl ⟨by kernel_rfl, ?_⟩) hHeld ?_
                  case refine_1 =>
                    rintro wx ⟨s1, -⟩
                    go_simp
                  change wpAnyH _ _ _ _ _ _ _ (Act.put _ (some 111) _) _
                  simp only [Act.put, List.setIfInBounds_toArray, List.set_cons_zero, List.set_cons_succ]
                  refine wpAnyH_take (i := 3) (oi := ⟨some 112, .load 44 (.tmp 10), 44, _, _, none⟩) (v := AT) rfl (by kernel_rfl) (by kernel_rfl) (by kernel_rfl) (fun _ _ _ h => h) (by rw [HAT.out]; exact yieldsIf_load_mid (by kernel_rfl) 44 (.tmp 10) rfl T 0 rfl _ _ (fun _ h => h.2) HU44.out rfl HISL.out) hHeld ?_
                  change wpAnyH _ _ _ _ _ _ _ (Act.put _ (some 112) _) _
                  simp only [Act.put, List.setIfInBounds_toArray, List.set_cons_zero, List.set_cons_succ]
                  refine wpAnyH_take (i := 4) (v := .int .i64 (i : Nat)) rfl (by kernel_rfl) (by kernel_rfl) (by kernel_rfl) (fun _ _ _ h => h) (Or.inl ⟨by kernel_rfl, ?_⟩) hHeld ?_
                  case refine_1 =>
                    rintro wx -
                    go_simp
                  change wpAnyH _ _ _ _ _ _ _ (Act.put _ (some 113) _) _
                  simp only [Act.put, List.setIfInBounds_toArray, List.set_cons_zero, List.set_cons_succ]
                  refine wpAnyH_ready (rs := [5]) (by kernel_rfl) (by simp) ?_
                  refine AllReadyH.cons rfl (fun K hK => ?_) AllReadyH.nil
                  go_simp
                  refine (HCO.out _ HD.out).mono ?_
                  rintro e wA ⟨rfl, hbA⟩
                  have HMA : Hid (Mod nob wr wA) := HD.out.step (mod_of_below hbA) (fun _ h => h)
                  clear hbA
                  go_wp2_with fail
                  refine hK.out _ _ (HSS.out _ HMA.out) (fun hHeld1 => ?_)
                  clear hK K
                  try simp only [Act.put, List.setIfInBounds_toArray, List.set_cons_zero, List.set_cons_succ]
                  refine wpAnyH_take (i := 6) (v := .bool false) rfl (by kernel_rfl) (by kernel_rfl) (by kernel_rfl) (fun _ _ _ h => h) (Or.inl ⟨by kernel_rfl, ?_⟩) hHeld1 ?_
                  case refine_1 =>
                    rintro wx -
                    go_simp
                  change wpAnyH _ _ _ _ _ _ _ (Act.put _ (some 115) _) _
                  simp only [Act.put, List.setIfInBounds_toArray, List.set_cons_zero, List.set_cons_succ]
                  refine wpAnyH_done (by kernel_rfl) ?_ _
                  refine NoPanic.normal ?_
                  go_wp2_with fail
                  go_roundg (gk - 1)
                  case measure => omega
                  case rel => exact ⟨i + 1, by omega, by go_num, HMI.out.step HMA.out (fun _ h => h)⟩
                · obtain rfl : i = 32 := by omega
                  have hii : ¬ ((32 : Nat) : Int) < 32 := by omega
                  go_wp2_with fail
                  go_ret
                  exact ⟨rfl, nob_mod_below ((HW9.out.step HMC.out (fun _ h => h)).step HMI.out (fun _ h => h))⟩
  · rcases (show bo = false ∨ (bo = true ∧ ¬ m0 ≤ 6) by cases bo with | false => exact .inl rfl | true => exact .inr ⟨rfl, fun h => hgo ⟨rfl, h⟩⟩) with rfl | ⟨rfl, hm6⟩
    all_goals
      try have hm6i : (6 : Int) < (m0 : Int) := by omega
      go_upto_if 33 with (first
      | (go_at_call 33; (with_reducible refine (HAW.out _).mono ?_); (rintro e w1 ⟨rfl, hb1⟩; have HX1 : Hid (Mod nob w w1) := mod_of_below hb1; clear hb1))
      | (go_at_call 34; (with_reducible refine (HFW.out _ HX1.out).mono ?_); (rintro e w2 ⟨rfl, hb2⟩)))
      have HX2 : Hid (Mod nob w w2) := HX1.out.step (mod_of_below hb2) (fun _ h => h)
      clear hb2 HX1 HFW HMD
      go_wp2_with fail
      refine (HAW.out _).mono ?_
      rintro e w3 ⟨rfl, hb3⟩
      have HX3 : Hid (Mod nob w w3) := HX2.out.step (mod_of_below hb3) (fun _ h => h)
      clear hb3
      go_wp2_with fail
      go_ret
      exact ⟨rfl, nob_mod_below HX3.out⟩
end Go.Proofs.Ytlopdbhjdijlmaa
