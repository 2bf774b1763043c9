/-
  fmt2.runs: a contract. No condition but the sheet.
-/
import Derived.Test.YtlopdbhjdijlmaaQRun2
import Derived.Test.YtlopdbhjdijlmaaQLay1

namespace Go.Proofs.Ytlopdbhjdijlmaa
open Go.ChangeShapes Go.WideShapes Go.ChangeAt Go.RowKit
set_option linter.unusedSimpArgs false
set_option linter.unusedVariables false

theorem and63_yes (x : Int) (h0 : 9223372036854775808 ≤ x) (h1 : x < 18446744073709551616) : bits .and .u64 x 9223372036854775808 = 9223372036854775808 := by
  rw [u64_and x _ (by omega) h1 (by omega) (by omega)]
  have e : x.toNat = 2 ^ 63 + (x.toNat - 2 ^ 63) := by omega
  have h2 : x.toNat - 2 ^ 63 < 2 ^ 63 := by omega
  have : x.toNat &&& 2 ^ 63 = 2 ^ 63 := by
    apply Nat.eq_of_testBit_eq
    intro i
    rw [Nat.testBit_and, Nat.testBit_two_pow]
    by_cases hi : 63 = i
    · subst hi
      rw [e, Nat.testBit_two_pow_add_eq, Nat.testBit_lt_two_pow h2]
      rfl
    · simp [hi]
  have e2 : (9223372036854775808 : Int).toNat = 2 ^ 63 := rfl
  rw [e2, this]
  rfl
theorem and63_no (x : Int) (h0 : 0 ≤ x) (h1 : x < 9223372036854775808) : bits .and .u64 x 9223372036854775808 = 0 := by
  rw [u64_and x _ (by omega) (by omega) (by omega) (by omega)]
  have h2 : x.toNat < 2 ^ 63 := by omega
  have : x.toNat &&& 2 ^ 63 = 0 := by
    apply Nat.eq_of_testBit_eq
    intro i
    rw [Nat.testBit_and, Nat.testBit_two_pow]
    by_cases hi : 63 = i
    · subst hi
      rw [Nat.testBit_lt_two_pow h2]
      simp
    · simp [hi]
  have e2 : (9223372036854775808 : Int).toNat = 2 ^ 63 := rfl
  rw [e2, this]
  rfl
theorem andNot63 (x : Int) (h0 : 9223372036854775808 ≤ x) (h1 : x < 18446744073709551616) : bits .andNot .u64 x 9223372036854775808 = x - 9223372036854775808 := by
  rw [Go.u64_andNot x _ (by omega) h1 (by omega) (by omega)]
  have e : 18446744073709551615 - (9223372036854775808 : Int).toNat = 2 ^ 63 - 1 := rfl
  rw [e, Nat.and_two_pow_sub_one_eq_mod]
  omega

/-- The words of a file's runs, as they lie there. -/
def sixR (S : Sh) (at_ : Int) : List Int := (List.range 6).map fun (k : Nat) => S.get (at_ + 2 + (k : Int))
def ownR (S : Sh) (at_ : Int) : List Nat := if 9223372036854775808 ≤ S.get (at_ + 7) then [numI (S.get (at_ + 7) - 9223372036854775808)] else []
def wordsR (S : Sh) (at_ : Int) : List Int := if 9223372036854775808 ≤ S.get (at_ + 7) then (sixR S at_).take 5 ++ (List.range 8).map (fun (k : Nat) => S.get (1080 + ((numI (S.get (at_ + 7) - 9223372036854775808) : Nat) : Int) * 8 + (k : Int))) else sixR S at_
noncomputable def rfold (ws : List Int) : Nat → Option (List Int)
  | 0 => some (List.replicate 13 0)
  | k + 1 => (rfold ws k).bind fun l => if ws.getD k 0 = 0 then some l else if runB (ws.getD k 0) = true then some (runSet l (ws.getD k 0)) else none
noncomputable def runs2 (S : Sh) (at_ : Int) : Option (List Int × List Nat) := (rfold (wordsR S at_) (wordsR S at_).length).map fun l => (l, ownR S at_)

theorem rfold_none {ws : List Int} {k : Nat} (h : rfold ws k = none) : ∀ m, k ≤ m → rfold ws m = none := by
  intro m
  induction m with
  | zero => intro hk; obtain rfl : k = 0 := by omega
            exact h
  | succ m ih =>
    intro hk
    by_cases e : k = m + 1
    · subst e; exact h
    · simp only [rfold]
      rw [ih (by omega)]
      rfl

theorem runTo_len (l : List Int) (A B : Nat) (k : Nat) : (runTo l A B k).length = l.length := by
  induction k with
  | zero => rfl
  | succ k ih => simp only [runTo, List.length_set, ih]
theorem rfold_len (ws : List Int) : ∀ k l, rfold ws k = some l → l.length = 13 := by
  intro k
  induction k with
  | zero =>
    intro l h
    simp only [rfold, Option.some.injEq] at h
    rw [← h]
    simp
  | succ k ih =>
    intro l h
    simp only [rfold] at h
    cases hr : rfold ws k with
    | none => rw [hr] at h; cases h
    | some l1 =>
      rw [hr, Option.bind_some] at h
      have h1 := ih l1 hr
      split at h
      · simp only [Option.some.injEq] at h
        rw [← h, h1]
      · split at h
        · simp only [Option.some.injEq] at h
          rw [← h]
          unfold runSet
          rw [runTo_len, h1]
        · cases h

theorem sixR_len (S : Sh) (at_ : Int) : (sixR S at_).length = 6 := by simp [sixR]
theorem sixR_succ (S : Sh) (at_ : Int) (k : Nat) (hk : k < 6) : (sixR S at_).take (k + 1) = (sixR S at_).take k ++ [S.get (at_ + 2 + (k : Int))] := by
  rw [List.take_succ_eq_append_getElem (by rw [sixR_len]; exact hk)]
  congr 2
  simp [sixR]
theorem range8_succ (f : Nat → Int) (k : Nat) : (List.range (k + 1)).map f = (List.range k).map f ++ [f k] := by rw [List.range_succ, List.map_append]; rfl

theorem own_take {w : World} {base : Nat} {e : TypeId} {ao : Option Addr} {n c : Nat} {xs : List Value} (h : w.ownsRow base e 1 (.slice ao n c) n xs) (m : Nat) (hm : m ≤ n) (hp : 0 < n) : w.ownsRow base e 1 (.slice ao m c) m (xs.take m) := by
  rcases h.2 with ⟨hv, h0⟩ | ⟨g, cap, cur, hv, hb, hg, hn, hmx, hsz, htk⟩
  · simp only [Value.slice.injEq] at hv
    omega
  · simp only [Value.slice.injEq] at hv
    obtain ⟨rfl, -, rfl⟩ := hv
    have hl := h.1
    refine ⟨by rw [List.length_take]; omega, .inr ⟨g, c, cur, rfl, hb, hg, by omega, hmx, hsz, ?_⟩⟩
    rw [← htk, List.take_take]
    congr 1
    omega

theorem wordsR_range {S : Sh} (h : S.Ok) (at_ : Int) (k : Nat) : 0 ≤ (wordsR S at_).getD k 0 ∧ (wordsR S at_).getD k 0 < 18446744073709551616 := by
  have hm : ∀ z ∈ wordsR S at_, 0 ≤ z ∧ z < 18446744073709551616 := by
    intro z hz
    unfold wordsR sixR at hz
    split at hz
    · rcases List.mem_append.1 hz with h1 | h1
      · obtain ⟨_, _, rfl⟩ := List.mem_map.1 (List.mem_of_mem_take h1)
        exact h.get _
      · obtain ⟨_, _, rfl⟩ := List.mem_map.1 h1
        exact h.get _
    · obtain ⟨_, _, rfl⟩ := List.mem_map.1 hz
      exact h.get _
  by_cases hk : k < (wordsR S at_).length
  · rw [List.getD_eq_getElem?_getD, List.getElem?_eq_getElem hk]
    exact hm _ (List.getElem_mem hk)
  · rw [List.getD_eq_getElem?_getD, List.getElem?_eq_none (by omega)]
    exact ⟨by decide, by decide⟩
theorem wordsR_len (S : Sh) (at_ : Int) : (wordsR S at_).length ≤ 13 := by
  unfold wordsR
  split
  · simp [sixR]
  · simp [sixR]

theorem arr13_set_all {w : World} {B : Nat} {l m : List Int} (h : Arr13 w B l) (hm : m.length = 13) : Arr13 (w.setCells B 0 (m.map (Value.int .i64))) B m := by
  have := heap_setCells_all B 22 (m.map (Value.int .i64)) [] (l.map (Value.int .i64)) w h.1 (by rw [List.length_map, List.length_map, h.2, hm])
  exact ⟨this, hm⟩
theorem Arr13.range {w : World} {B : Nat} {l : List Int} (h : Arr13 w B l) : w.rangeAt B 0 (l.map (Value.int .i64)) := fun j v hj => by
  rw [Nat.zero_add, cell_of_row _ _ _ _ _ _ h.1]
  simpa using hj
theorem Arr13.there {w : World} {B : Nat} {l : List Int} (h : Arr13 w B l) : w.there B 0 13 := by
  intro j hj
  rw [Nat.zero_add]
  exact ⟨by rw [h.cell j hj]; rfl, h.frozen j⟩
theorem Mod.cellsSet13 {D : Nat → Prop} {w : World} (b : Nat) (hb : D b ∨ w.heap.size ≤ b) : ∀ (vs : List Value) (o : Nat) (w' : World), Mod D w w' → Mod D w (w'.setCells b o vs)
  | [], _, _, h => h
  | v :: vs, o, w', h => Mod.cellsSet13 b hb vs (o + 1) _ (h.setCell (a := ⟨b, o, none⟩) hb v)

structure RunsMid (w wc : World) (v o9 : Value) (ws : List Int) (own : List Nat) (R X : Nat) : Prop where
  row : wc.ownsRow (X + 1) 37 1 v ws.length (u64s ws)
  own : HoldsN wc o9 own
  fresh : ∀ g, o9.ownBlock = some g → X < g
  arr : Arr13 wc X (List.replicate 13 0)
  res : Arr13 wc R (List.replicate 13 0)
  below : Below w.heap.size w wc

def Runs2Post (w : World) (r : Option (List Int × List Nat)) (e : Ending) (w' : World) : Prop :=
  Below w.heap.size w w' ∧ match r with
  | none => ∃ l : List Int, l.length = 13 ∧ e = .returned (.tuple #[.agg (l.map (Value.int .i64)).toArray, .slice none 0 0, .bool false])
  | some (l, own) => ∃ bv, l.length = 13 ∧ e = .returned (.tuple #[.agg (l.map (Value.int .i64)).toArray, bv, .bool true]) ∧ HoldsN w' bv own ∧ (∀ g, bv.ownBlock = some g → w.heap.size ≤ g)

set_option maxRecDepth 20000 in
set_option maxHeartbeats 8000000 in
theorem runs2_any {w : World} {p : Nat} {D : Nat → Prop} {S : Sh} (h : SheetAt w p D S) (at_ : Int) (ha : 0 ≤ at_ ∧ at_ ≤ 3000) :
    Calls Try.prog 99 #[.pointer (some ⟨p, 0, none⟩), .int .i64 at_] w (Runs2Post w (runs2 S at_)) := by
  obtain ⟨i0, hi0, hz0, hz1, hz2⟩ := info_parts Try.infoU64
  have HSH := Lib.hid h
  have HOK := Lib.hid h.ok
  obtain ⟨a0, a1⟩ := ha
  clear h
  go_enter Try.func99, Try.ntmps99
  go_wp2_with fail
  obtain ⟨R, hR⟩ : ∃ R, R = w.heap.size := ⟨_, rfl⟩
  obtain ⟨X, hX⟩ : ∃ X, X = w.heap.size + 1 := ⟨_, rfl⟩
  have HBE0 : Hid (Below w.heap.size w ((w.alloc (.cells z13 22)).alloc (.cells z13 22))) := ((Below.refl _ _).alloc (Nat.le_refl _) _).alloc (by simp) _
  have HAR : Hid (Arr13 ((w.alloc (.cells z13 22)).alloc (.cells z13 22)) R (List.replicate 13 0)) := ⟨by rw [hR]; exact heap_new0 _ _ _, by simp⟩
  have HAX : Hid (Arr13 ((w.alloc (.cells z13 22)).alloc (.cells z13 22)) X (List.replicate 13 0)) := ⟨by rw [hX]; exact heap_new1 _ _ _, by simp⟩
  have hs0 : ((w.alloc (.cells z13 22)).alloc (.cells z13 22)).heap.size = X + 1 := by rw [hX]; simp
  have HS0 := Lib.hid hs0
  have hst : SheetAt ((w.alloc (.cells z13 22)).alloc (.cells z13 22)) p D S := HSH.out.mod (mod_of_below HBE0.out) (fun _ _ h => h)
  have HST := Lib.hid hst
  have HRX := Lib.hid (And.intro hR hX)
  rw [← hX, ← hR]
  clear hst hs0 HSH
  generalize (w.alloc (.cells z13 22)).alloc (.cells z13 22) = w0 at *
  clear hR hX
  have HG : Hid (∀ wx, Mod nob w0 wx → ∀ i : Int, Calls Try.prog 37 #[.pointer (some ⟨p, 0, none⟩), .int .i64 i] wx fun e w' => e = .returned (.int .u64 (S.get i)) ∧ wx = w') := fun wx hm i => sheet_get (HST.out.mod hm (fun _ _ h => h)) i
  go_loopg [8, 10, 15] 6 (fun gk v _ iv wr => ∃ k : Nat, k + gk = 6 ∧ iv = .int .i64 k ∧ Hid (wr.ownsRow (X + 1) 37 1 v k (u64s ((sixR S at_).take k))) ∧ Hid (Mod nob w0 wr))
  case atStart => exact ⟨0, by omega, rfl, World.ownsRow_nil _ _ _ _, Mod.refl _ _⟩
  case round =>
    obtain ⟨k, hk, rfl, HO, HM⟩ := hrel
    have hsz := HM.out.size
    have hs0 := HS0.out
    by_cases hlt : k < 6
    · have hki : (k : Int) < 6 := by omega
      have hk0 : (0 : Int) ≤ (k : Int) := Int.natCast_nonneg _
      have HSX := Lib.hid (sixR_succ S at_ k hlt)
      obtain ⟨x, hx⟩ : ∃ x, x = S.get (at_ + 2 + (k : Int)) := ⟨_, rfl⟩
      have HGX := Lib.hid (HG.out wr HM.out (at_ + 2 + (k : Int)))
      rw [← hx] at HGX HSX
      obtain ⟨va, vc, rfl, v1, v2, -⟩ := own_shape HO.out
      unfold maxLen at v2
      clear hx
      go_wp2_with fail
      refine HGX.out.mono ?_
      rintro e w3 ⟨rfl, rfl⟩
      go_wp2_with (at_builtin; refine wpList_append_own_at _ rfl (.tmp 18) (.tmp 25) 75 rfl (X + 1) 37 i0 (.int .u64 0) 1 8 Try.underlying75 hi0 hz0 hz1 hz2 rfl (by decide) _ k (u64s ((sixR S at_).take k)) rfl (HO.out.alloc _) ⟨wr.heap.size, 0, none⟩ 1 1 [.int .u64 x] rfl rfl (cells_new _ _ _) (by simp [Value.oneCell']) (by unfold maxLen; omega) (by omega) (by simp; omega) ?_)
      intro v' w3 hown hgr _ hat
      have HM3 : Hid (Mod nob w0 w3) := mod_grown (HM.out.alloc _) hgr (fun q hq => by have := own_ge HO.out q hq; omega)
      have HO3 : Hid (w3.ownsRow (X + 1) 37 1 v' (k + 1) (u64s ((sixR S at_).take (k + 1)))) := by
        unfold Hid
        rw [HSX.out, show u64s ((sixR S at_).take k ++ [x]) = u64s ((sixR S at_).take k) ++ [.int .u64 x] by simp [u64s]]
        exact hown
      clear hown hgr hat
      go_wp2_with fail
      go_roundg (gk - 1)
      case measure => omega
      case rel => exact ⟨k + 1, by omega, by go_num, HO3, HM3⟩
    · have hge : ¬ (k : Int) < 6 := by omega
      obtain rfl : k = 6 := by omega
      have h6 : (sixR S at_).take 6 = sixR S at_ := List.take_of_length_le (by rw [sixR_len]; exact Nat.le_refl _)
      have ho := HO.out
      rw [h6] at ho
      have HO6 := Lib.hid ho
      obtain ⟨gv, cv, rfl, -, -, -, -⟩ := own_some ho (by omega)
      have he5 : at_ + 2 + 5 = at_ + 7 := by omega
      have hc5 := ho.cells rfl 5 (.int .u64 (S.get (at_ + 7))) (by simp [u64s, sixR, he5])
      rw [Addr.add_lit, Nat.zero_add] at hc5
      have hyr := HOK.out.get (at_ + 7)
      obtain ⟨va', vc', e, v1, v2, -⟩ := own_shape ho
      simp only [Value.slice.injEq] at e
      obtain ⟨-, -, rfl⟩ := e
      unfold maxLen at v2
      have hown9 : ∀ g, (Value.slice (some ⟨gv, 0, none⟩) 6 cv).ownBlock = some g → X + 1 ≤ g := own_ge ho
      obtain ⟨y, hy⟩ : ∃ y, y = S.get (at_ + 7) := ⟨_, rfl⟩
      rw [← hy] at hc5 hyr
      have HYY := Lib.hid hy
      obtain ⟨y0, y1⟩ := hyr
      clear ho h6 hy HO hown9
      go_upto_if 33 with (fail)
      go_cut [8, 9, 12, 32, 33, 34, 35, 36, 37, 38, 39, 40, 41, 42, 43, 44, 45, 46, 47, 48, 49, 50, 51, 52, 53, 54] (fun v8 v9 _ _ _ _ _ _ _ _ _ _ _ _ _ _ _ _ _ _ _ _ _ _ _ _ wc => ∃ v o, v = v8 ∧ o = v9 ∧ Hid (RunsMid w wc v o (wordsR S at_) (ownR S at_) R X))
      case first =>
        by_cases hb : 9223372036854775808 ≤ y
        · have hor : ownR S at_ = [numI (y - 9223372036854775808)] := by unfold ownR; rw [← HYY.out, if_pos hb]
          have hwr : wordsR S at_ = (sixR S at_).take 5 ++ (List.range 8).map (fun (k : Nat) => S.get (1080 + ((numI (y - 9223372036854775808) : Nat) : Int) * 8 + (k : Int))) := by unfold wordsR; rw [← HYY.out, if_pos hb]
          have ha63 := and63_yes y hb y1
          have hn63 := andNot63 y hb y1
          have HNU := Lib.hid (fun wx => number2_any (y - 9223372036854775808) (by omega) (by omega) wx)
          have hnl := numI_lt (y - 9223372036854775808)
          obtain ⟨z, hz⟩ : ∃ z, z = numI (y - 9223372036854775808) := ⟨_, rfl⟩
          rw [← hz] at hor hwr HNU hnl
          have HOR := Lib.hid hor
          have HWR := Lib.hid hwr
          have hzi : (z : Int) < 256 := by omega
          have HBL : Hid (∀ wx, Calls Try.prog 105 #[.int .i64 (z : Int)] wx fun e w' => e = .returned (.int .i64 (1080 + (z : Int) * 8)) ∧ wx = w') := by
            intro wx
            have := block_any (z : Int) wx
            rw [if_neg (by omega)] at this
            exact this
          clear hor hwr hz hb
          go_upto_region 13 with (go_at_call 122; with_reducible refine (HNU.out _).mono ?_; rintro e w4 ⟨rfl, rfl⟩)
          obtain ⟨Z, hZ⟩ : ∃ Z, Z = wr.heap.size := ⟨_, rfl⟩
          have hzc : (wr.alloc (.cells #[.int .i64 (z : Int)] 3)).heap[wr.heap.size]? = some (.cells #[.int .i64 (z : Int)] 3 (0, 0)) := heap_alloc_new _ _
          have HO5 : Hid ((wr.alloc (.cells #[.int .i64 (z : Int)] 3)).ownsRow (X + 1) 37 1 (.slice (some ⟨gv, 0, none⟩) 5 cv) 5 (u64s ((sixR S at_).take 5 ++ (List.range 0).map (fun (k : Nat) => S.get (1080 + (z : Int) * 8 + (k : Int)))))) := by
            have := own_take (HO6.out.alloc (.cells #[.int .i64 (z : Int)] 3)) 5 (by omega) (by omega)
            unfold Hid
            simpa [u64s, List.map_take] using this
          have HM4 : Hid (Mod nob w0 (wr.alloc (.cells #[.int .i64 (z : Int)] 3))) := HM.out.alloc _
          have hZX : X < Z := by omega
          have hZg : gv ≠ Z := by have := own_lt HO6.out (g := gv) rfl; omega
          have HZG : Hid (∀ g, (Value.slice (some ⟨gv, 0, none⟩) 5 cv).ownBlock = some g → g ≠ Z) := fun g hg => by cases hg; exact hZg
          rw [← hZ] at hzc ⊢
          generalize wr.alloc (.cells #[.int .i64 (z : Int)] 3) = w4 at *
          have HZC := Lib.hid hzc
          have HZX := Lib.hid hZX
          have hs4 : X + 1 ≤ w4.heap.size := by have := HM4.out.size; omega
          have HS4 := Lib.hid hs4
          clear hZ hzc hZX hZg hs4 hc5 ha63 hn63 HNU hsz
          go_wp2_with fail
          go_loopg [8, 12, 40] 8 (fun gk v _ iv wx => ∃ k : Nat, k + gk = 8 ∧ iv = .int .i64 k ∧ Hid (wx.ownsRow (X + 1) 37 1 v (5 + k) (u64s ((sixR S at_).take 5 ++ (List.range k).map (fun (k : Nat) => S.get (1080 + (z : Int) * 8 + (k : Int)))))) ∧ Hid (Mod nob w0 wx) ∧ Hid (wx.heap[Z]? = some (.cells #[.int .i64 (z : Int)] 3 (0, 0))) ∧ Hid (∀ g, v.ownBlock = some g → g ≠ Z))
          case atStart => exact ⟨0, by omega, rfl, HO5.out, HM4.out, HZC.out, HZG.out⟩
          case round =>
            obtain ⟨k, hk, rfl, HO, HMX, HZK, HZN⟩ := hrel
            have hszx := HMX.out.size
            have hs0' := HS0.out
            have hZlt := lt_of_block HZK.out
            by_cases hlt : k < 8
            · have hki : (k : Int) < 8 := by omega
              have hk0 : (0 : Int) ≤ (k : Int) := Int.natCast_nonneg _
              have HSX := Lib.hid (range8_succ (fun (k : Nat) => S.get (1080 + (z : Int) * 8 + (k : Int))) k)
              have HMW : Hid (Mod nob w0 wr) := HMX
              have dz : wr.cell? ⟨Z, 0, none⟩ = some (.int .i64 (z : Int)) := by rw [cell_of_row _ _ _ _ _ _ HZK.out]; rfl
              have HGX := Lib.hid (HG.out wr HMW.out (1080 + (z : Int) * 8 + (k : Int)))
              obtain ⟨x, hx⟩ : ∃ x, x = S.get (1080 + (z : Int) * 8 + (k : Int)) := ⟨_, rfl⟩
              simp only [← hx] at HGX HSX
              obtain ⟨va, vc, rfl, v1, v2, -⟩ := own_shape HO.out
              unfold maxLen at v2
              clear hx
              go_wp2_with fail
              refine (HBL.out _).mono ?_
              rintro e w5 ⟨rfl, rfl⟩
              go_wp2_with fail
              refine HGX.out.mono ?_
              rintro e w5 ⟨rfl, rfl⟩
              go_wp2_with (at_builtin; refine wpList_append_own_at _ rfl (.tmp 43) (.tmp 52) 75 rfl (X + 1) 37 i0 (.int .u64 0) 1 8 Try.underlying75 hi0 hz0 hz1 hz2 rfl (by decide) _ (5 + k) _ rfl (HO.out.alloc _) ⟨wr.heap.size, 0, none⟩ 1 1 [.int .u64 x] rfl rfl (cells_new _ _ _) (by simp [Value.oneCell']) (by unfold maxLen; omega) (by omega) (by simp; omega) ?_)
              intro v' w5 hown hgr _ hat
              have HM5 : Hid (Mod nob w0 w5) := mod_grown (HMX.out.alloc _) hgr (fun q hq => by have := own_ge HO.out q hq; omega)
              have HZ5 : Hid (w5.heap[Z]? = some (.cells #[.int .i64 (z : Int)] 3 (0, 0))) := grown_heap hgr (((Mod.refl nob wr).alloc _).heap HZK.out (fun h => h)) (fun e => HZN.out Z e rfl)
              have HZN5 : Hid (∀ g, v'.ownBlock = some g → g ≠ Z) := fun g hg => by
                rcases hat with e | e
                · exact HZN.out g (by rw [← e]; exact hg)
                · rw [e] at hg
                  simp at hg
                  omega
              have HO5' : Hid (w5.ownsRow (X + 1) 37 1 v' (5 + (k + 1)) (u64s ((sixR S at_).take 5 ++ (List.range (k + 1)).map (fun (k : Nat) => S.get (1080 + (z : Int) * 8 + (k : Int)))))) := by
                unfold Hid
                rw [HSX.out, ← List.append_assoc, show ∀ a : List Int, u64s (a ++ [x]) = u64s a ++ [.int .u64 x] from fun a => by simp [u64s]]
                exact hown
              clear hown hgr hat dz
              go_wp2_with fail
              go_roundg (gk - 1)
              case measure => omega
              case rel => exact ⟨k + 1, by omega, by go_num, HO5', HM5, HZ5, HZN5⟩
            · have hge : ¬ (k : Int) < 8 := by omega
              obtain rfl : k = 8 := by omega
              have hwl : (wordsR S at_).length = 13 := by rw [HWR.out]; simp [sixR]
              have HMID : Hid (∀ v, wr.ownsRow (X + 1) 37 1 v (5 + 8) (u64s ((sixR S at_).take 5 ++ (List.range 8).map (fun (k : Nat) => S.get (1080 + (z : Int) * 8 + (k : Int))))) → RunsMid w wr v (.slice (some ⟨Z, 0, none⟩) 1 1) (wordsR S at_) (ownR S at_) R X) := fun v hv => by
                rw [HOR.out]
                refine ⟨by rw [hwl, HWR.out]; exact hv, ?_, (fun g hg => by cases hg; exact HZX.out), HAX.out.mod HMX.out (fun h => h), HAR.out.mod HMX.out (fun h => h), HBE0.out.trans (HMX.out.below HBE0.out.size (fun b h => h.elim))⟩
                refine ⟨some ⟨Z, 0, none⟩, 1, rfl, Nat.le_refl _, by unfold maxLen; omega, (fun h => by cases h), fun j hj => ?_⟩
                simp only [List.length_singleton] at hj
                obtain rfl : j = 0 := by omega
                exact ⟨Z, 0, rfl, by rw [cell_of_row _ _ _ _ _ _ HZK.out]; rfl⟩
              go_wp2_with fail
              go_meet
              case rel => exact ⟨_, _, rfl, rfl, HMID.out _ HO.out⟩
        · have ha63 := and63_no y y0 (by omega)
          have hor : ownR S at_ = [] := by unfold ownR; rw [← HYY.out, if_neg hb]
          have hwr : wordsR S at_ = sixR S at_ := by unfold wordsR; rw [← HYY.out, if_neg hb]
          have HMID : Hid (RunsMid w wr (.slice (some ⟨gv, 0, none⟩) 6 cv) (.slice none 0 0) (wordsR S at_) (ownR S at_) R X) := by
            unfold Hid
            rw [hor, hwr]
            refine ⟨by rw [sixR_len]; exact HO6.out, HoldsN.nil _, (fun g hg => by cases hg), HAX.out.mod HM.out (fun h => h), HAR.out.mod HM.out (fun h => h), ?_⟩
            exact HBE0.out.trans (HM.out.below HBE0.out.size (fun b h => h.elim))
          clear hor hwr hb
          go_wp2_with fail
          go_meet
          case rel => exact ⟨_, _, rfl, rfl, HMID.out⟩
      case rest =>
        obtain ⟨v, o, rfl, rfl, HMD⟩ := hcut
        obtain ⟨wq, rfl⟩ : ∃ wq : World, wq = wc := ⟨_, rfl⟩
        have hwl := wordsR_len S at_
        have HWR := Lib.hid (wordsR_range HOK.out at_)
        have hr2 : runs2 S at_ = (rfold (wordsR S at_) (wordsR S at_).length).map fun l => (l, ownR S at_) := rfl
        have HR2 := Lib.hid hr2
        have hrow := HMD.out.row
        obtain ⟨va, vc, rfl, v1', v2', -⟩ := own_shape hrow
        unfold maxLen at v2'
        have HROW := Lib.hid hrow
        obtain ⟨L, hL⟩ : ∃ L, L = (wordsR S at_).length := ⟨_, rfl⟩
        rw [← hL] at hwl HROW v1' ⊢
        have HLL := Lib.hid hL
        clear hr2 hrow hL hc5 HO6 HM hsz HYY v1 v2
        go_wp2_with fail
        go_loopg [14, 57] L (fun gk _ iv wr => ∃ (k : Nat) (l : List Int), k + gk = L ∧ iv = .int .i64 k ∧ Hid (rfold (wordsR S at_) k = some l) ∧ Hid (Arr13 wr X l) ∧ Hid (Mod (fun b => b = X) wq wr))
        case atStart => exact ⟨0, _, by omega, rfl, rfl, HMD.out.arr, Mod.refl _ _⟩
        case round =>
          obtain ⟨k, l, hk, rfl, HF, HK, HMX⟩ := hrel
          by_cases hlt : k < L
          · have hki : (k : Int) < (L : Int) := by omega
            have hrw := HMX.out.own HROW.out (fun g hg e => by have := own_ge HROW.out g hg; omega)
            obtain ⟨g, c, e, -, -, -, -⟩ := own_some hrw (by omega)
            simp only [Value.slice.injEq] at e
            obtain ⟨rfl, -, rfl⟩ := e
            have d1 := hrw.cells rfl k (.int .u64 ((wordsR S at_).getD k 0)) (by
              have hkl : k < (wordsR S at_).length := by rw [← HLL.out]; exact hlt
              unfold u64s
              rw [List.getElem?_map, List.getD_eq_getElem?_getD, List.getElem?_eq_getElem hkl]
              rfl)
            rw [Addr.add_lit, Nat.zero_add] at d1
            have hxr := HWR.out k
            have hfs : rfold (wordsR S at_) (k + 1) = if (wordsR S at_).getD k 0 = 0 then some l else if runB ((wordsR S at_).getD k 0) = true then some (runSet l ((wordsR S at_).getD k 0)) else none := by
              simp only [rfold]
              rw [HF.out, Option.bind_some]
            obtain ⟨x, hx⟩ : ∃ x, x = (wordsR S at_).getD k 0 := ⟨_, rfl⟩
            rw [← hx] at d1 hxr hfs
            obtain ⟨x0, x1⟩ := hxr
            clear hrw hx
            by_cases hx0 : x = 0
            · subst hx0
              rw [if_pos rfl] at hfs
              have HFS := Lib.hid hfs
              clear hfs
              go_wp2_with fail
              go_roundg (gk - 1)
              case measure => omega
              case rel => exact ⟨k + 1, l, by omega, by go_num, HFS, HK, HMX⟩
            · rw [if_neg hx0] at hfs
              have hxb : (x != 0) = true := by simpa using hx0
              have hrun := run2_any HK.out x x0 x1
              cases hb : runB x with
              | true =>
                rw [hb, if_pos rfl] at hfs
                rw [hb, if_pos rfl] at hrun
                have HFS := Lib.hid hfs
                have HRUN := Lib.hid hrun
                clear hfs hrun hx0 hb
                go_wp2_with fail
                refine HRUN.out.mono ?_
                rintro e w5 ⟨rfl, ha5, hm5⟩
                have HA5 := Lib.hid ha5
                have HM5 : Hid (Mod (fun b => b = X) wq w5) := HMX.out.step hm5 (fun _ h => h)
                clear ha5 hm5
                go_wp2_with fail
                go_roundg (gk - 1)
                case measure => omega
                case rel => exact ⟨k + 1, _, by omega, by go_num, HFS, HA5, HM5⟩
              | false =>
                rw [hb, if_neg (by simp)] at hfs
                rw [hb, if_neg (by simp)] at hrun
                have hrr : runs2 S at_ = none := by
                  rw [HR2.out, rfold_none hfs _ (by rw [← HLL.out]; omega)]
                  rfl
                have HRR := Lib.hid hrr
                have HRUN := Lib.hid hrun
                clear hfs hrun hx0 hb hrr
                go_wp2_with fail
                refine HRUN.out.mono ?_
                rintro e w5 ⟨rfl, ha5, hm5⟩
                obtain ⟨wr0, hwr0⟩ : ∃ wr0, wr0 = wr := ⟨_, rfl⟩
                have HK := Lib.hid ha5
                have HMX : Hid (Mod (fun b => b = X) wq w5) := HMX.out.step hm5 (fun _ h => h)
                clear ha5 hm5 d1 hwr0
                have HRX2 := Lib.hid HK.out.range
                have hl13 := HK.out.2
                have HL13 := Lib.hid hl13
                have HRES : Hid (Arr13 w5 R (List.replicate 13 0)) := HMD.out.res.mod HMX.out (by have := HRX.out; omega)
                have HTH : Hid (w5.there R 0 (l.map (Value.int .i64)).toArray.size) := by
                  unfold Hid; rw [show (l.map (Value.int .i64)).toArray.size = 13 by simp [hl13]]; exact HRES.out.there
                have HSL : Hid ((Try.prog.info? 22).map (·.size) = some (l.map (Value.int .i64)).length) := by
                  unfold Hid; rw [List.length_map, hl13]; exact Try.info13
                have HSA : Hid ((Try.prog.info? 22).map (·.size) = some (l.map (Value.int .i64)).toArray.size) := by
                  unfold Hid; rw [show (l.map (Value.int .i64)).toArray.size = 13 by simp [hl13]]; exact Try.info13
                have HONE : Hid ((l.map (Value.int .i64)).toArray.all (·.oneCell') = true) := all_oneCell_toArray (ints_oneCell _ _)
                have HRS : Hid (Arr13 (w5.setCells R 0 (l.map (Value.int .i64))) R l) := arr13_set_all HRES.out hl13
                have HSM : Hid (Mod (fun b => b = R) w5 (w5.setCells R 0 (l.map (Value.int .i64)))) := Mod.cellsSet13 (D := fun b => b = R) R (.inl rfl) _ _ _ (Mod.refl _ w5)
                have hbw : Below w.heap.size w w5 := HMD.out.below.trans (HMX.out.below HMD.out.below.size (fun b hb => by have := HRX.out; omega))
                have HBW : Hid (Below w.heap.size w (w5.setCells R 0 (l.map (Value.int .i64)))) := hbw.trans (HSM.out.below hbw.size (fun b hb => by have := HRX.out; omega))
                have HNO : Hid (HoldsN (w5.setCells R 0 (l.map (Value.int .i64))) o (ownR S at_)) := (HMD.out.own.mod HMX.out (fun _ g hg e => by have := HMD.out.fresh g hg; omega)).mod HSM.out (fun _ g hg e => by have := HMD.out.fresh g hg; have := HRX.out; omega)
                clear hl13 hbw
                go_upto_region 22 with (fail)
                go_cut [5, 6, 68] (fun v5 v6 _ wc => v5 = .slice none 0 0 ∧ v6 = .bool false ∧ Hid (Arr13 wc R l) ∧ Hid (Below w.heap.size w wc) ∧ Hid (HoldsN wc o (ownR S at_)))
                case first =>
                  go_wp2_with (first
                    | (with_reducible refine wpList_load_mid (op := ⟨some 68, _, _, _, _, _⟩) rfl 22 _ rfl X 0 rfl (l.map (Value.int .i64)) _ HRX2.out Try.underlying22 rfl HSL.out ?_)
                    | (with_reducible refine wpList_store_mid (op := ⟨none, _, _, _, _, _⟩) rfl 22 _ _ rfl R 0 (l.map (Value.int .i64)).toArray rfl rfl HTH.out HSA.out HONE.out ?_))
                  go_meet
                  case rel => exact ⟨rfl, rfl, HRS.out, HBW.out, HNO.out⟩
                case rest =>
                  obtain ⟨rfl, rfl, HAE, HBE, HNE⟩ := hcut
                  have hlv := run_loadVar_mid (P := Try.prog) wc R 0 22 _ _ HAE.out.range Try.underlying22 rfl HSL.out
                  have HLV := Lib.hid hlv
                  clear hlv
                  go_wp2_with fail
                  rw [HRR.out]
                  refine bodyPost_ret (v := .tuple #[.agg (l.map (Value.int .i64)).toArray, .slice none 0 0, .bool false]) ?_ rfl ⟨HBE.out, _, HL13.out, rfl⟩
                  have hlv := HLV.out
                  simp [results, Try.results99, asAddr, hlv]
          · have hge : ¬ (k : Int) < (L : Int) := by omega
            obtain rfl : k = L := by omega
            have hrr : runs2 S at_ = some (l, ownR S at_) := by
              rw [HR2.out, ← HLL.out, HF.out]
              rfl
            have HRR := Lib.hid hrr
            clear hrr
            have HRX2 := Lib.hid HK.out.range
            have hl13 := HK.out.2
            have HL13 := Lib.hid hl13
            have HRES : Hid (Arr13 wr R (List.replicate 13 0)) := HMD.out.res.mod HMX.out (by have := HRX.out; omega)
            have HTH : Hid (wr.there R 0 (l.map (Value.int .i64)).toArray.size) := by
              unfold Hid; rw [show (l.map (Value.int .i64)).toArray.size = 13 by simp [hl13]]; exact HRES.out.there
            have HSL : Hid ((Try.prog.info? 22).map (·.size) = some (l.map (Value.int .i64)).length) := by
              unfold Hid; rw [List.length_map, hl13]; exact Try.info13
            have HSA : Hid ((Try.prog.info? 22).map (·.size) = some (l.map (Value.int .i64)).toArray.size) := by
              unfold Hid; rw [show (l.map (Value.int .i64)).toArray.size = 13 by simp [hl13]]; exact Try.info13
            have HONE : Hid ((l.map (Value.int .i64)).toArray.all (·.oneCell') = true) := all_oneCell_toArray (ints_oneCell _ _)
            have HRS : Hid (Arr13 (wr.setCells R 0 (l.map (Value.int .i64))) R l) := arr13_set_all HRES.out hl13
            have HSM : Hid (Mod (fun b => b = R) wr (wr.setCells R 0 (l.map (Value.int .i64)))) := Mod.cellsSet13 (D := fun b => b = R) R (.inl rfl) _ _ _ (Mod.refl _ wr)
            have hbw : Below w.heap.size w wr := HMD.out.below.trans (HMX.out.below HMD.out.below.size (fun b hb => by have := HRX.out; omega))
            have HBW : Hid (Below w.heap.size w (wr.setCells R 0 (l.map (Value.int .i64)))) := hbw.trans (HSM.out.below hbw.size (fun b hb => by have := HRX.out; omega))
            have HNO : Hid (HoldsN (wr.setCells R 0 (l.map (Value.int .i64))) o (ownR S at_)) := (HMD.out.own.mod HMX.out (fun _ g hg e => by have := HMD.out.fresh g hg; omega)).mod HSM.out (fun _ g hg e => by have := HMD.out.fresh g hg; have := HRX.out; omega)
            clear hl13 hbw
            go_upto_region 24 with (fail)
            go_cut [5, 6, 70, 71] (fun v5 v6 _ _ wc => o = v5 ∧ v6 = .bool true ∧ Hid (Arr13 wc R l) ∧ Hid (Below w.heap.size w wc) ∧ Hid (HoldsN wc o (ownR S at_)))
            case first =>
              go_wp2_with (first
                | (with_reducible refine wpList_load_mid (op := ⟨some 70, _, _, _, _, _⟩) rfl 22 _ rfl X 0 rfl (l.map (Value.int .i64)) _ HRX2.out Try.underlying22 rfl HSL.out ?_)
                | (with_reducible refine wpList_store_mid (op := ⟨none, _, _, _, _, _⟩) rfl 22 _ _ rfl R 0 (l.map (Value.int .i64)).toArray rfl rfl HTH.out HSA.out HONE.out ?_))
              go_meet
              case rel => exact ⟨rfl, rfl, HRS.out, HBW.out, HNO.out⟩
            case rest =>
              obtain ⟨rfl, rfl, HAE, HBE, HNE⟩ := hcut
              have hlv := run_loadVar_mid (P := Try.prog) wc R 0 22 _ _ HAE.out.range Try.underlying22 rfl HSL.out
              have HLV := Lib.hid hlv
              clear hlv
              go_wp2_with fail
              rw [HRR.out]
              refine bodyPost_ret (v := .tuple #[.agg (l.map (Value.int .i64)).toArray, o, .bool true]) ?_ rfl ⟨HBE.out, _, HL13.out, rfl, HNE.out, fun g hg => by have := HMD.out.fresh g hg; have := HRX.out; omega⟩
              have hlv := HLV.out
              simp [results, Try.results99, asAddr, hlv]
end Go.Proofs.Ytlopdbhjdijlmaa
