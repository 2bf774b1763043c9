/-
  What was laid in the second format is read again: plain lemmas. Nothing is assumed.
-/
import Derived.Test.YtfpnmphmngdkdaaQPutGet2
import Derived.Test.YtfpnmphmngdkdaaQPackM
import Derived.Test.YtfpnmphmngdkdaaQLayGet
import Derived.Test.YtfpnmphmngdkdaaQLayTwo

namespace Go.Proofs.Ytfpnmphmngdkdaa
set_option linter.unusedSimpArgs false
set_option linter.unusedVariables false

noncomputable def rstep (o : Option (List Int)) (x : Int) : Option (List Int) := o.bind fun l => if x = 0 then some l else if runB x = true then some (runSet l x) else none
theorem rfold_eq (ws : List Int) : ∀ k, k ≤ ws.length → rfold ws k = (ws.take k).foldl rstep (some (List.replicate 13 0)) := by
  intro k
  induction k with
  | zero => intro _; rfl
  | succ k ih =>
    intro hk
    have hlt : k < ws.length := by omega
    simp only [rfold]
    rw [ih (by omega), List.take_succ_eq_append_getElem hlt, List.foldl_append, List.foldl_cons, List.foldl_nil, List.getD_eq_getElem?_getD, List.getElem?_eq_getElem hlt]
    rfl
theorem rstep_zeros (o : Option (List Int)) : ∀ m, (List.replicate m (0 : Int)).foldl rstep o = o := by
  intro m
  induction m with
  | zero => rfl
  | succ m ih =>
    rw [List.replicate_succ, List.foldl_cons]
    have : rstep o 0 = o := by cases o <;> simp [rstep]
    rw [this, ih]
theorem rparts (A B n : Nat) (hA : A < 13) (hB : B < 256) (hn : n ≤ 13) : rA ((A : Int) * 4294967296 + (B : Int) * 256 + (n : Int)) = A ∧ rB ((A : Int) * 4294967296 + (B : Int) * 256 + (n : Int)) = B ∧ rN ((A : Int) * 4294967296 + (B : Int) * 256 + (n : Int)) = n := by
  unfold rA rB rN
  refine ⟨by omega, by omega, by omega⟩
theorem rstep_run (l : List Int) (A B n : Nat) (hA : A + n ≤ 13) (hB : B + n ≤ 256) (h1 : 1 ≤ B) (hn : 1 ≤ n) : rstep (some l) ((A : Int) * 4294967296 + (B : Int) * 256 + (n : Int)) = some (runTo l A B n) := by
  obtain ⟨e1, e2, e3⟩ := rparts A B n (by omega) (by omega) (by omega)
  have hok : runB ((A : Int) * 4294967296 + (B : Int) * 256 + (n : Int)) = true := (runB_iff _).2 (by unfold RunOk; rw [e1, e2, e3]; omega)
  unfold rstep
  rw [Option.bind_some, if_neg (by omega), if_pos hok]
  unfold runSet
  rw [e1, e2, e3]
def padL (l : List Int) (k : Nat) : List Int := l.take k ++ List.replicate (13 - k) 0
theorem padL_set (l : List Int) (k : Nat) (hl : l.length = 13) (hk : k < 13) (b : Int) (hb : l.getD k 0 = b) : (padL l k).set k b = padL l (k + 1) := by
  unfold padL
  have hkl : k < l.length := by omega
  have hz : List.replicate (13 - k) (0 : Int) = 0 :: List.replicate (13 - (k + 1)) 0 := by
    rw [show 13 - k = (13 - (k + 1)) + 1 by omega, List.replicate_succ]
  rw [hz, List.set_append_right _ _ (by rw [List.length_take]; omega), List.length_take, show k - min k l.length = 0 by omega, List.set_cons_zero, List.take_succ_eq_append_getElem hkl]
  rw [List.getD_eq_getElem?_getD, List.getElem?_eq_getElem hkl] at hb
  simp only [Option.getD_some] at hb
  rw [hb]
  simp
theorem padL_zero (l : List Int) (k : Nat) (hl : l.length = 13) (hk : k < 13) (hb : l.getD k 0 = 0) : padL l (k + 1) = padL l k := by
  unfold padL
  have hkl : k < l.length := by omega
  rw [show 13 - k = (13 - (k + 1)) + 1 by omega, List.replicate_succ, List.take_succ_eq_append_getElem hkl]
  rw [List.getD_eq_getElem?_getD, List.getElem?_eq_getElem hkl] at hb
  simp only [Option.getD_some] at hb
  rw [hb]
  simp

theorem runs_back (l : List Int) (hl : l.length = 13) (hb : ∀ k, k < 13 → 0 ≤ l.getD k 0 ∧ l.getD k 0 < 256) : ∀ k, k ≤ 13 →
    (RunsM.upto l k).1.foldl rstep (some (List.replicate 13 0)) = some (padL l k) ∧
    (0 < (RunsM.upto l k).2 → ∃ (xs : List Int) (A B n : Nat) (L0 : List Int), (RunsM.upto l k).1 = xs ++ [(A : Int) * 4294967296 + (B : Int) * 256 + (n : Int)] ∧ xs.foldl rstep (some (List.replicate 13 0)) = some L0 ∧ 1 ≤ n ∧ A + n = k ∧ 1 ≤ B ∧ (B : Int) + (n : Int) = (RunsM.upto l k).2 + 1 ∧ (RunsM.upto l k).2 < 256 ∧ runTo L0 A B n = padL l k) := by
  intro k
  induction k with
  | zero => intro _; exact ⟨by simp [RunsM.upto, padL], by simp [RunsM.upto]⟩
  | succ k ih =>
    intro hk
    obtain ⟨h1, h2⟩ := ih (by omega)
    have hbk := hb k (by omega)
    have hset := fun b => padL_set l k hl (by omega) b
    have hzero := padL_zero l k hl (by omega)
    simp only [RunsM.upto]
    generalize RunsM.upto l k = s at *
    generalize l.getD k 0 = b at *
    unfold RunsM.step
    by_cases c1 : b < 1 ∨ 256 ≤ b
    · rw [if_pos c1]
      refine ⟨?_, by simp⟩
      rw [hzero (by omega)]
      exact h1
    · rw [if_neg c1]
      by_cases c2 : 0 < s.2 ∧ b = s.2 + 1
      · rw [if_pos c2]
        obtain ⟨xs, A, B, n, L0, e1, e2, e3, e4, e5, e6, e7, e8⟩ := h2 c2.1
        have hx : (A : Int) * 4294967296 + (B : Int) * 256 + (n : Int) + 1 = (A : Int) * 4294967296 + (B : Int) * 256 + ((n + 1 : Nat) : Int) := by omega
        have hrt : runTo L0 A B (n + 1) = padL l (k + 1) := by
          simp only [runTo]
          rw [e8, e4, show ((B + n : Nat) : Int) = b by omega]
          exact hset b rfl
        simp only [e1, RunsM.bump_snoc, hx]
        refine ⟨?_, fun _ => ⟨xs, A, B, n + 1, L0, rfl, e2, by omega, by omega, e5, by omega, by omega, hrt⟩⟩
        rw [List.foldl_append, e2, List.foldl_cons, List.foldl_nil, rstep_run L0 A B (n + 1) (by omega) (by omega) e5 (by omega), hrt]
      · rw [if_neg c2]
        have hx : RunsM.enc k b = ((k : Nat) : Int) * 4294967296 + ((b.toNat : Nat) : Int) * 256 + ((1 : Nat) : Int) := by unfold RunsM.enc; omega
        have hrt : runTo (padL l k) k b.toNat 1 = padL l (k + 1) := by
          simp only [runTo]
          rw [Nat.add_zero, show ((b.toNat + 0 : Nat) : Int) = b by omega]
          exact hset b rfl
        simp only [hx]
        refine ⟨?_, fun _ => ⟨s.1, k, b.toNat, 1, padL l k, rfl, h1, by omega, by omega, by omega, by omega, by omega, hrt⟩⟩
        rw [List.foldl_append, h1, List.foldl_cons, List.foldl_nil, rstep_run (padL l k) k b.toNat 1 (by omega) (by omega) (by omega) (by omega), hrt]

theorem rfold_runs (l : List Int) (hl : l.length = 13) (hb : ∀ k, k < 13 → 0 ≤ l.getD k 0 ∧ l.getD k 0 < 256) (m : Nat) : rfold (RunsM.runs l ++ List.replicate m 0) (RunsM.runs l ++ List.replicate m 0).length = some l := by
  rw [rfold_eq _ _ (Nat.le_refl _), List.take_length, List.foldl_append, rstep_zeros]
  have := (runs_back l hl hb 13 (by omega)).1
  unfold padL at this
  rw [show 13 - 13 = 0 by omega, List.replicate_zero, List.append_nil, List.take_of_length_le (by omega)] at this
  exact this

theorem bl_eq : ∀ (x y : List UInt8), Op.bytesLess x y = decide (x < y)
  | [], [] => by simp [Op.bytesLess]
  | _ :: _, [] => by simp [Op.bytesLess]
  | [], _ :: _ => by simp [Op.bytesLess]
  | a :: x, b :: y => by
    rw [Op.bytesLess, bl_eq x y]
    simp only [List.cons_lt_cons_iff]
    by_cases h1 : a < b <;> by_cases h2 : a = b <;> by_cases h3 : x < y <;> simp [h1, h2, h3]
theorem bl_irrefl (x : List UInt8) : Op.bytesLess x x = false := by rw [bl_eq]; exact decide_eq_false (List.lt_irrefl x)
theorem bl_trans {x y z : List UInt8} (h1 : Op.bytesLess x y = true) (h2 : Op.bytesLess y z = true) : Op.bytesLess x z = true := by
  rw [bl_eq] at *
  exact decide_eq_true (List.lt_trans (of_decide_eq_true h1) (of_decide_eq_true h2))
theorem bl_asymm {x y : List UInt8} (h1 : Op.bytesLess x y = true) : Op.bytesLess y x = false := by
  rw [bl_eq] at *
  exact decide_eq_false (List.lt_asymm (of_decide_eq_true h1))
theorem bl_total {x y : List UInt8} (h1 : Op.bytesLess x y = false) (h2 : (x == y) = false) : Op.bytesLess y x = true := by
  rw [bl_eq] at *
  refine decide_eq_true ?_
  have h1 := of_decide_eq_false h1
  have h2 : x ≠ y := by simpa using h2
  exact Classical.byContradiction fun h3 => h2 (List.le_antisymm (List.not_lt.1 h3) (List.not_lt.1 h1))


theorem ltE_irrefl (x : En) : ltE x x = false := bl_irrefl _
theorem ltE_asymm {x y : En} (h : ltE x y = true) : ltE y x = false := bl_asymm h
theorem ins_mid {A B : List En} {x : En} (hE1 : ∀ a ∈ A, ltE a x = true) (hE2 : ∀ b ∈ B, ltE b x = false) : insL (A ++ B) x = A ++ x :: B := by
  have hk : insK (A ++ B) x = A.length := by
    unfold insK
    rw [List.takeWhile_append_of_pos hE1]
    cases B with
    | nil => simp
    | cons b B => rw [List.takeWhile_cons_of_neg (by rw [hE2 b (by simp)]; decide), List.append_nil]
  unfold insL
  rw [hk, List.take_left, List.drop_left]

theorem ins_filter {E : List En} (hE : E.Pairwise (fun a b => ltE a b = true)) {x : En} (hx : x ∈ E) (p p' : En → Bool) (hp : p x = false) (hp' : p' x = true) (hpp : ∀ y ∈ E, y ≠ x → p' y = p y) :
    insL (E.filter p) x = E.filter p' := by
  obtain ⟨E1, E2, rfl⟩ := List.append_of_mem hx
  rw [List.pairwise_append, List.pairwise_cons] at hE
  obtain ⟨h1, ⟨h2, h3⟩, h4⟩ := hE
  have n1 : ∀ y ∈ E1, y ≠ x := fun y hy e => by have := h4 y hy x (by simp); rw [e, ltE_irrefl] at this; cases this
  have n2 : ∀ y ∈ E2, y ≠ x := fun y hy e => by have := h2 y hy; rw [e, ltE_irrefl] at this; cases this
  rw [List.filter_append, List.filter_cons_of_neg (by rw [hp]; decide), List.filter_append, List.filter_cons_of_pos hp', ins_mid (fun a ha => h4 a (List.mem_filter.1 ha).1 x (by simp)) (fun b hb => ltE_asymm (h2 b (List.mem_filter.1 hb).1)),
    List.filter_congr (fun y hy => (hpp y (by simp [hy]) (n1 y hy)).symm), List.filter_congr (fun y hy => (hpp y (by simp [hy]) (n2 y hy)).symm)]

open Classical in
theorem ins_fold {E : List En} (hE : E.Pairwise (fun a b => ltE a b = true)) : ∀ (X : List En) (p p' : En → Bool), (∀ x ∈ X, x ∈ E ∧ p x = false) → X.Pairwise (· ≠ ·) → (∀ y ∈ E, p' y = (p y || decide (y ∈ X))) →
    X.foldl (insL) (E.filter p) = E.filter p' := by
  intro X
  induction X with
  | nil =>
    intro p p' _ _ h
    exact List.filter_congr (fun y hy => by rw [h y hy]; simp)
  | cons x X ih =>
    intro p p' h1 h2 h3
    obtain ⟨hx, hpx⟩ := h1 x (by simp)
    rw [List.pairwise_cons] at h2
    rw [List.foldl_cons, ins_filter hE hx p (fun y => p y || decide (y = x)) hpx (by simp) (fun y _ hne => by simp [hne])]
    refine ih _ _ (fun z hz => ⟨(h1 z (by simp [hz])).1, ?_⟩) h2.2 (fun y hy => ?_)
    · have := h2.1 z hz
      simp [(h1 z (by simp [hz])).2, Ne.symm this]
    · rw [h3 y hy]
      simp [Bool.or_assoc]

theorem pairE {l : List En} (h : EntsTo l l.length) : l.Pairwise (fun a b => ltE a b = true) := by
  rw [List.pairwise_iff_getElem]
  have hcons : ∀ i (hi : i + 1 < l.length), ltE l[i] l[i + 1] = true := fun i hi => by
    obtain ⟨-, h2, -, -⟩ := h (i + 1) hi
    unfold leS prevN at h2
    rw [if_neg (by omega), Nat.add_sub_cancel, List.getD_eq_getElem?_getD, List.getElem?_eq_getElem hi, List.getD_eq_getElem?_getD, List.getElem?_eq_getElem (by omega)] at h2
    simp only [Option.getD_some, Bool.or_eq_false_iff] at h2
    exact bl_total h2.1 h2.2
  intro i j hi hj hij
  obtain ⟨d, rfl⟩ : ∃ d, j = i + 1 + d := ⟨j - i - 1, by omega⟩
  clear hij
  induction d with
  | zero => exact hcons i hj
  | succ d ih => exact bl_trans (ih (by omega)) (hcons (i + 1 + d) hj)

theorem nword_ne {s : ByteArray} (hg : goodB s.data.toList = true) : (nword s : Nat) ≠ 0 := by
  intro e
  have h1 := byte7_nword (good_size hg).2
  rw [e] at h1
  have h2 := (good_size hg).1
  have h3 : PackM.byteAt 0 7 = 0 := by decide
  omega

theorem entsC_laid {T : Sh} {b a : Nat} {l : List En} (hg : ∀ k, k < l.length → goodB (l.getD k default).name.data.toList = true ∧ 0 ≤ (l.getD k default).ino ∧ (l.getD k default).ino < 32)
    (h1 : ∀ k : Nat, k < 3 → T.get (1080 + (b : Int) * 8 + 1 + 2 * (k : Int)) = if 3 * a + k < l.length then ((nword (l.getD (3 * a + k) default).name : Nat) : Int) else 0)
    (h2 : ∀ k : Nat, k < 3 → 3 * a + k < l.length → T.get (1080 + (b : Int) * 8 + 2 + 2 * (k : Int)) = (l.getD (3 * a + k) default).ino) : ∀ f k, f + k = 3 → entsC T b f k (l.take (3 * a + k)) = some (l.take (3 * a + 3)) := by
  intro f
  induction f with
  | zero => intro k hk; rw [show k = 3 by omega]; rfl
  | succ f ih =>
    intro k hk
    simp only [entsC]
    rw [h1 k (by omega)]
    by_cases hlt : 3 * a + k < l.length
    · obtain ⟨g1, g2, g3⟩ := hg _ hlt
      have hne := nword_ne g1
      rw [if_pos hlt, if_neg (by omega), h2 k (by omega) hlt, if_pos ⟨by rw [Int.toNat_natCast]; exact isName_nword g1, g3⟩, Int.toNat_natCast, wtext_nword (good_size g1).2]
      have e : l.take (3 * a + k) ++ [⟨(l.getD (3 * a + k) default).name, (l.getD (3 * a + k) default).ino⟩] = l.take (3 * a + (k + 1)) := by
        rw [← Nat.add_assoc, List.take_succ_eq_append_getElem hlt, List.getD_eq_getElem?_getD, List.getElem?_eq_getElem hlt]
        rfl
      rw [e]
      exact ih (k + 1) (by omega)
    · rw [if_neg hlt, if_pos rfl, List.take_of_length_le (by omega), List.take_of_length_le (by omega)]

theorem numI_nat (x : Nat) (h : x < 256) : numI (x : Int) = x := by unfold numI; rw [if_neg (by omega)]; omega

theorem chainC_laid {T : Sh} {l : List En} {o : List Nat} (hl : l.length ≤ 24) (hd : o.length = (l.length + 2) / 3) (ho : ∀ a, a < o.length → 1 ≤ o.getD a 0 ∧ o.getD a 0 < 256)
    (hg : ∀ k, k < l.length → goodB (l.getD k default).name.data.toList = true ∧ 0 ≤ (l.getD k default).ino ∧ (l.getD k default).ino < 32)
    (hB : ∀ a, a < o.length → ∀ r : Nat, r < 8 → T.get (1080 + ((o.getD a 0 : Nat) : Int) * 8 + (r : Int)) = wd3 l o 0 o.length a r) : ∀ f a, f + a = 26 → a ≤ o.length → chainC T f (o.getD a 0) (l.take (3 * a)) (o.take a) = some (l, o) := by
  intro f
  induction f with
  | zero => intro a h1 h2; omega
  | succ f ih =>
    intro a h1 h2
    simp only [chainC]
    by_cases e : a = o.length
    · have h0 : o.getD a 0 = 0 := by rw [List.getD_eq_getElem?_getD, List.getElem?_eq_none (by omega)]; rfl
      rw [h0, if_pos rfl, List.take_of_length_le (by omega), List.take_of_length_le (by omega)]
    · have hao : a < o.length := by omega
      obtain ⟨g1, g2⟩ := ho a hao
      rw [if_neg (by omega), if_neg (by rw [List.length_take]; omega)]
      have hw := hB a hao
      have he := entsC_laid (T := T) (b := o.getD a 0) (a := a) hg (fun k hk => by
        have := hw (1 + 2 * k) (by omega)
        rw [show 1080 + ((o.getD a 0 : Nat) : Int) * 8 + 1 + 2 * (k : Int) = 1080 + ((o.getD a 0 : Nat) : Int) * 8 + ((1 + 2 * k : Nat) : Int) by omega, this]
        unfold wd3
        rw [if_neg (by omega), if_neg (by omega), show (1 + 2 * k - 1) / 2 = k by omega]
        by_cases hlt : 3 * a + k < l.length
        · rw [if_pos hlt, if_pos hlt, if_pos (by omega)]
        · rw [if_neg hlt, if_neg hlt]) (fun k hk hlt => by
        have := hw (2 + 2 * k) (by omega)
        rw [show 1080 + ((o.getD a 0 : Nat) : Int) * 8 + 2 + 2 * (k : Int) = 1080 + ((o.getD a 0 : Nat) : Int) * 8 + ((2 + 2 * k : Nat) : Int) by omega, this]
        unfold wd3
        rw [if_neg (by omega), if_neg (by omega), show (2 + 2 * k - 1) / 2 = k by omega, if_pos hlt, if_neg (by omega)]) 3 0 (by omega)
      rw [Nat.add_zero] at he
      rw [he, Option.bind_some]
      have hnx : numI (T.get (1080 + ((o.getD a 0 : Nat) : Int) * 8)) = o.getD (a + 1) 0 := by
        have := hw 0 (by omega)
        rw [show 1080 + ((o.getD a 0 : Nat) : Int) * 8 + ((0 : Nat) : Int) = 1080 + ((o.getD a 0 : Nat) : Int) * 8 by omega] at this
        rw [this]
        unfold wd3
        rw [if_pos rfl]
        by_cases h3 : a + 1 < o.length
        · rw [if_pos h3, Nat.zero_add, numI_nat _ (ho _ h3).2]
        · rw [if_neg h3, List.getD_eq_getElem?_getD, List.getElem?_eq_none (by omega)]
          rfl
      have hta : o.take a ++ [o.getD a 0] = o.take (a + 1) := by
        rw [List.take_succ_eq_append_getElem hao, List.getD_eq_getElem?_getD, List.getElem?_eq_getElem hao]
        rfl
      rw [hnx, hta, show 3 * a + 3 = 3 * (a + 1) by omega]
      exact ih (a + 1) (by omega) (by omega)

theorem names2_laid {T : Sh} {at_ : Nat} (ha : 820 ≤ at_ ∧ at_ ≤ 1072) {E : List En} (hE : EntsTo E E.length) (hl : E.length ≤ 24) {own : List Nat} (hon : own.length = sumB E 4) (ho : ∀ a, a < own.length → 1 ≤ own.getD a 0 ∧ own.getD a 0 < 256)
    (hN : ∀ b : Nat, b < 4 → T.get ((at_ : Int) + 2 + (b : Int)) = (((ownB E own b).getD 0 0 : Nat) : Int))
    (hB : ∀ b, b < 4 → ∀ a, a < dB E b → ∀ r : Nat, r < 8 → T.get (1080 + ((own.getD (sumB E b + a) 0 : Nat) : Int) * 8 + (r : Int)) = wd3 (bktL E b) own (sumB E b) (dB E b) a r) : ∀ k, k ≤ 4 →
    names2To T at_ k = some (E.filter (fun y => decide (bucketOf y.name < k)), own.take (sumB E k)) := by
  have hpw := pairE hE
  intro k
  induction k with
  | zero =>
    intro _
    simp only [names2To]
    rw [show E.filter (fun y => decide (bucketOf y.name < 0)) = [] from List.filter_eq_nil_iff.2 (fun y _ => by simp)]
    simp [sumB]
  | succ k ih =>
    intro hk
    have hs1 : sumB E (k + 1) = sumB E k + dB E k := rfl
    have hso : sumB E (k + 1) ≤ own.length := by rw [hon]; exact sumB_mono E hk
    have hol := ownB_length (l := E) (own := own) hso
    simp only [names2To]
    rw [ih (by omega), Option.bind_some]
    unfold namesStep2
    rw [hN k (by omega)]
    have hhd : (ownB E own k).getD 0 0 < 256 := by
      by_cases h0 : 0 < dB E k
      · rw [ownB_get h0]; exact (ho _ (by omega)).2
      · rw [List.getD_eq_getElem?_getD, List.getElem?_eq_none (by omega)]; decide
    rw [numI_nat _ hhd]
    have hch := chainC_laid (T := T) (l := bktL E k) (o := ownB E own k) (Nat.le_trans (bktL_len E k) hl) hol (fun a ha => by rw [ownB_get (by omega)]; exact ho _ (by omega))
      (fun q hq => by
        have hm : (bktL E k).getD q default ∈ E := by
          rw [List.getD_eq_getElem?_getD, List.getElem?_eq_getElem hq]
          exact (List.mem_filter.1 (List.getElem_mem hq)).1
        obtain ⟨j, hj, he⟩ := List.mem_iff_getElem.1 hm
        have := hE j hj
        unfold entOK at this
        rw [List.getD_eq_getElem?_getD, List.getElem?_eq_getElem hj] at this
        rw [← he]
        exact ⟨this.1, this.2.2.1, this.2.2.2⟩)
      (fun a ha r hr => by rw [ownB_get (by omega), hB k (by omega) a (by omega) r hr, hol, wd3_ownB]) 26 0 (by omega) (by omega)
    have hch2 : chain2 T ((ownB E own k).getD 0 0) = some (bktL E k, ownB E own k) := by
      unfold chain2
      simpa using hch
    rw [hch2, Option.bind_some]
    have hfold : (bktL E k).foldl insL (E.filter (fun y => decide (bucketOf y.name < k))) = E.filter (fun y => decide (bucketOf y.name < k + 1)) := by
      refine ins_fold hpw (bktL E k) _ _ (fun x hx => ?_) ?_ (fun y hy => ?_)
      · unfold bktL at hx
        obtain ⟨h1, h2⟩ := List.mem_filter.1 hx
        simp only [decide_eq_true_eq] at h2
        exact ⟨h1, by simp [h2]⟩
      · unfold bktL
        refine (hpw.filter _).imp (fun {a b} hab e => ?_)
        rw [e, ltE_irrefl] at hab
        cases hab
      · have hiff : y ∈ bktL E k ↔ bucketOf y.name = k := by
          unfold bktL
          rw [List.mem_filter]
          simp [hy]
        by_cases h1 : bucketOf y.name < k
        · simp [h1, show bucketOf y.name < k + 1 by omega]
        · by_cases h2 : bucketOf y.name = k
          · simp [h2, hiff]
          · simp [h1, hiff, h2, show ¬ bucketOf y.name < k + 1 by omega]
    have hlen : (E.filter (fun y => decide (bucketOf y.name < k))).length + (bktL E k).length ≤ 24 := by
      rw [← foldl_ins_len, hfold]
      exact Nat.le_trans (List.length_filter_le _ _) hl
    dsimp only
    rw [if_neg (by omega), hfold, hs1, List.take_add]
    rfl


theorem tagW_parts2 {n : Ino} (hf : n.format = 2) (hk : 0 ≤ n.kind ∧ n.kind < 256) (hl : 0 ≤ n.links ∧ n.links < 65536) : tagW n % 256 = n.format ∧ tagW n / 256 % 256 = n.kind ∧ tagW n / 65536 % 65536 = n.links := by
  unfold tagW
  omega

theorem list_one {own : List Nat} (h : own.length = 1) : own = [own.getD 0 0] := by
  match own, h with
  | [a], _ => rfl

theorem range_map_pad {R : List Int} (f : Nat → Int) (m : Nat) (h : R.length ≤ m) (hf : ∀ k, k < m → f k = R.getD k 0) : (List.range m).map f = R ++ List.replicate (m - R.length) 0 := by
  apply List.ext_getElem
  · simp; omega
  · intro k h1 h2
    have hk : k < m := by simpa using h1
    rw [List.getElem_map, List.getElem_range, hf k hk, List.getElem_append]
    split
    · rename_i hlt
      rw [List.getD_eq_getElem?_getD, List.getElem?_eq_getElem hlt]
      rfl
    · rename_i hge
      rw [List.getD_eq_getElem?_getD, List.getElem?_eq_none (by omega), List.getElem_replicate]
      rfl

theorem rd2_laid {T : Sh} {i : Int} (hi : 0 ≤ i ∧ i < 32) {n : Ino} {xs : List Nat} (h : Laid2 T i n xs) (hr : RightP n) (hf : n.format = 2) (hl : n.bl.length = 13) : rd2 T i = some (n, xs) := by
  obtain ⟨at_, hat⟩ : ∃ at_ : Nat, at_ = (824 + i * 8).toNat := ⟨_, rfl⟩
  have hati : 824 + i * 8 = (at_ : Int) := by omega
  have ha : 820 ≤ at_ ∧ at_ ≤ 1072 := by omega
  have hob : ∀ b ∈ xs, b < 256 := fun b hb => (h.mem b hb).2
  have ho : OwnOK xs xs.length := ⟨fun a ha => getD_lt hob a, fun a b hab hb => h.pair a b hab hb⟩
  have hpos : ∀ a, a < xs.length → 1 ≤ xs.getD a 0 ∧ xs.getD a 0 < 256 := fun a ha => h.mem _ (getD_in0 ha)
  have hino := h.ino
  have hblk := h.blk
  rw [hati] at hino hblk
  obtain ⟨s1, s2, s3, s4, s5⟩ := hr.small
  obtain ⟨t1, t2, t3⟩ := tagW_parts2 hf s2 s3
  have w0 : T.get (at_ : Int) = tagW n := by
    have := hino 0 (by omega)
    rw [show (at_ : Int) + ((0 : Nat) : Int) = (at_ : Int) by omega] at this
    rw [← this]; unfold word2At; rw [if_pos rfl]
  have w1 : T.get ((at_ : Int) + 1) = n.size := by
    have := hino 1 (by omega)
    rw [show (at_ : Int) + ((1 : Nat) : Int) = (at_ : Int) + 1 by omega] at this
    rw [← this]; unfold word2At; rw [if_neg (by omega), if_pos rfl]
  have hhead : headN T (at_ : Int) = ⟨n.format, n.kind, n.links, n.size, List.replicate 13 0, []⟩ := by
    unfold headN
    rw [w0, w1, t1, t2, t3, if_neg (by omega)]
  have hpw : ∀ j : Int, 820 ≤ j → j < 3128 → (put2S (Sh.new []) (at_ : Int) n xs).get j = (word2At n (at_ : Int) xs j).1 := fun j g1 g2 => put2_word _ (by omega) n xs hob ho h.len j ⟨g1, g2⟩ (fun _ => new_nil_get j)
  have hex : ExactT T at_ n xs := by
    refine ⟨h.len, h.pair, fun k hk => by have := hpos k hk; omega, fun j hj => ?_⟩
    intro r hr
    cases j with
    | zero =>
      have e : (((frL at_ xs).getD 0 0 : Nat) : Int) = (at_ : Int) := rfl
      rw [e, ← hino r hr]
      exact (hpw _ (by omega) (by omega)).symm
    | succ a =>
      have hax : a < xs.length := by omega
      have hx := hpos a hax
      have e : (((frL at_ xs).getD (a + 1) 0 : Nat) : Int) = 1080 + ((xs.getD a 0 : Nat) : Int) * 8 := by
        unfold frL
        rw [List.getD_cons_succ, List.getD_eq_getElem?_getD, List.getElem?_map, List.getElem?_eq_getElem hax, List.getD_eq_getElem?_getD, List.getElem?_eq_getElem hax]
        simp
      rw [e, ← hblk a hax r hr]
      exact (hpw _ (by omega) (by omega)).symm
  have hfin : finR2 T at_ n xs = some (n, xs) := by unfold finR2; rw [if_pos ⟨hr, hex⟩]
  unfold rd2
  rw [if_neg (by omega), ← hat]
  unfold rd2At
  rw [hhead]
  dsimp only
  rw [if_neg (by rw [hf]; decide)]
  rcases hr.2.2.2 with ⟨hk, hF⟩ | ⟨hk, hD⟩
  · rw [if_pos hk]
    obtain ⟨hbl, -, -, hen⟩ := hF
    have hb : ∀ k, k < 13 → 0 ≤ n.bl.getD k 0 ∧ n.bl.getD k 0 < 256 := fun k hk => (hbl k hk).1
    have hRl := runs_len n.bl
    have hRb := (RunsM.fit_upto n.bl 13).each
    have hw : ∀ q : Nat, q < 6 → T.get ((at_ : Int) + 2 + (q : Int)) = fileV (RunsM.runs n.bl) xs q := fun q hq => by
      have := hino (2 + q) (by omega)
      rw [show (at_ : Int) + ((2 + q : Nat) : Int) = (at_ : Int) + 2 + (q : Int) by omega] at this
      rw [← this]
      unfold word2At
      rw [if_neg (by omega), if_neg (by omega), if_pos hk, if_pos (by omega), show ((at_ : Int) + 2 + (q : Int) - (at_ : Int) - 2).toNat = q by omega]
    have hru : runs2 T (at_ : Int) = some (n.bl, xs) := by
      have hlx := h.len
      unfold need2 at hlx
      rw [if_pos hk] at hlx
      have h7 := hw 5 (by omega)
      rw [show (at_ : Int) + 2 + ((5 : Nat) : Int) = (at_ : Int) + 7 by omega] at h7
      by_cases h6 : 6 < (RunsM.runs n.bl).length
      · rw [if_pos h6] at hlx
        have hne : xs ≠ [] := fun e => by rw [e] at hlx; cases hlx
        have hx := hpos 0 (by omega)
        have h8 : T.get ((at_ : Int) + 7) = 9223372036854775808 + ((xs.getD 0 0 : Nat) : Int) := by rw [h7]; unfold fileV; rw [if_neg hne, if_pos rfl]
        have hnum : numI (T.get ((at_ : Int) + 7) - 9223372036854775808) = xs.getD 0 0 := by rw [h8, show 9223372036854775808 + ((xs.getD 0 0 : Nat) : Int) - 9223372036854775808 = ((xs.getD 0 0 : Nat) : Int) by omega]; exact numI_nat _ hx.2
        have hbw : ∀ r : Nat, r < 8 → T.get (1080 + ((xs.getD 0 0 : Nat) : Int) * 8 + (r : Int)) = (RunsM.runs n.bl).getD (5 + r) 0 := fun r hr => by
          rw [← hblk 0 (by omega) r hr]
          unfold word2At
          rw [if_neg (by omega), if_neg (by omega), if_pos hk, if_neg (by omega), if_pos ⟨hne, by omega, by omega⟩]
          dsimp only
          rw [show (1080 + ((xs.getD 0 0 : Nat) : Int) * 8 + (r : Int) - 1080 - 8 * ((xs.getD 0 0 : Nat) : Int)).toNat = r by omega]
          unfold fileV
          rw [if_neg hne, if_neg (by omega), if_pos (by omega), show 6 + r - 1 = 5 + r by omega]
        have hwords : wordsR T (at_ : Int) = RunsM.runs n.bl ++ List.replicate (13 - (RunsM.runs n.bl).length) 0 := by
          unfold wordsR sixR
          rw [if_pos (by rw [h8]; omega), hnum, ← range_map_pad (fun k => (RunsM.runs n.bl).getD k 0) 13 hRl (fun k _ => rfl)]
          rw [← List.map_take, List.take_range]
          rw [show List.range 13 = List.range 5 ++ (List.range 8).map (fun x => 5 + x) from by decide, List.map_append, List.map_map]
          refine congr (congrArg HAppend.hAppend ?_) ?_
          · refine List.map_congr_left (fun k hk => ?_)
            have hk5 : k < 5 := by simpa using hk
            rw [hw k (by omega)]
            unfold fileV
            rw [if_neg hne, if_neg (by omega), if_neg (by omega)]
          · refine List.map_congr_left (fun k hk => ?_)
            have hk8 : k < 8 := by simpa using hk
            exact hbw k hk8
        have hown : ownR T (at_ : Int) = xs := by
          unfold ownR
          rw [if_pos (by rw [h8]; omega), hnum]
          exact (list_one hlx).symm
        unfold runs2
        rw [hwords, rfold_runs n.bl hl hb, Option.map_some, hown]
      · rw [if_neg h6] at hlx
        have hnil : xs = [] := List.eq_nil_of_length_eq_zero hlx
        have hv : ∀ q : Nat, q < 6 → fileV (RunsM.runs n.bl) xs q = (RunsM.runs n.bl).getD q 0 := fun q hq => by unfold fileV; rw [if_pos hnil, if_pos hq]
        have hlt : T.get ((at_ : Int) + 7) < 9223372036854775808 := by
          rw [h7, hv 5 (by omega)]
          by_cases h5 : 5 < (RunsM.runs n.bl).length
          · have := hRb _ (show (RunsM.runs n.bl).getD 5 0 ∈ (RunsM.upto n.bl 13).1 by
              rw [List.getD_eq_getElem?_getD, List.getElem?_eq_getElem h5]
              exact List.getElem_mem h5)
            omega
          · rw [List.getD_eq_getElem?_getD, List.getElem?_eq_none (by omega)]
            decide
        have hwords : wordsR T (at_ : Int) = RunsM.runs n.bl ++ List.replicate (6 - (RunsM.runs n.bl).length) 0 := by
          unfold wordsR sixR
          rw [if_neg (by omega)]
          exact range_map_pad _ 6 (by omega) (fun k hk => by rw [hw k hk, hv k hk])
        have hown : ownR T (at_ : Int) = xs := by
          unfold ownR
          rw [if_neg (by omega), hnil]
        unfold runs2
        rw [hwords, rfold_runs n.bl hl hb, Option.map_some, hown]
    rw [hru, Option.bind_some]
    have e : (⟨n.format, n.kind, n.links, n.size, n.bl, []⟩ : Ino) = n := by rw [← hen]
    rw [e]
    exact hfin
  · rw [if_neg (by omega), if_pos hk]
    obtain ⟨hE, hE24, -, hbl0⟩ := hD
    have hlx : xs.length = sumB n.ents 4 := by rw [h.len]; unfold need2; rw [if_neg (by omega)]
    have hk1 : ¬ n.kind = 1 := by omega
    have hnm : names2To T at_ 4 = some (n.ents, xs) := by
      rw [names2_laid ha hE hE24 hlx hpos (fun b hb => ?_) (fun b hb a hab r hr => ?_) 4 (by omega)]
      · refine congrArg some (Prod.ext ?_ ?_)
        · exact List.filter_eq_self.2 (fun y _ => by have := bucketOf_lt y.name; simpa using this)
        · exact List.take_of_length_le (by omega)
      · have := hino (2 + b) (by omega)
        rw [show (at_ : Int) + ((2 + b : Nat) : Int) = (at_ : Int) + 2 + (b : Int) by omega] at this
        rw [← this]
        unfold word2At
        rw [if_neg (by omega), if_neg (by omega), if_neg hk1, wordB_num n.ents xs (by omega) b hb 4 0 (by omega) (by omega), ownB_head]
      · have hs1 : sumB n.ents (b + 1) = sumB n.ents b + dB n.ents b := rfl
        have hso : sumB n.ents (b + 1) ≤ xs.length := by rw [hlx]; exact sumB_mono n.ents (by omega)
        have hx := hpos (sumB n.ents b + a) (by omega)
        rw [← hblk (sumB n.ents b + a) (by omega) r hr]
        unfold word2At
        rw [if_neg (by omega), if_neg (by omega), if_neg hk1, wordB_blk n.ents xs (by omega) ho b a r hso hb hab hr _ rfl 4 0 (by omega) (by omega) (by omega)]
    rw [hnm, Option.bind_some]
    have hbl : n.bl = List.replicate 13 0 := by
      apply List.ext_getElem
      · simp [hl]
      · intro k h1 h2
        have := hbl0 k (by omega)
        rw [List.getD_eq_getElem?_getD, List.getElem?_eq_getElem h1] at this
        rw [List.getElem_replicate]
        exact this
    have e : (⟨n.format, n.kind, n.links, n.size, List.replicate 13 0, n.ents⟩ : Ino) = n := by rw [← hbl]
    dsimp only
    rw [e]
    exact hfin

/-- An inode's own blocks, where it is laid. -/
noncomputable def own2S (S : Sh) (n : Ino) : List Nat := (takeFrom 255 S 1 (need2 n)).2

theorem lay2S_laid (S : Sh) (i : Int) (hi : 0 ≤ i ∧ i < 32) (n : Ino) (hfree : need2 n ≤ freeN S) : Laid2 (lay2S S i n) i n (own2S S n) := by
  have h := tookN S (need2 n) hfree
  have hob : ∀ b ∈ own2S S n, b < 256 := fun b hb => (h.mem b hb).2.1
  have hap : ApartTo (own2S S n) (own2S S n).length := apartTo_pair h.pair
  have ho : OwnOK (own2S S n) (own2S S n).length := ⟨fun a ha => getD_lt hob a, fun a b hab hb => hap a b hab hb⟩
  refine ⟨h.len, fun b hb => ⟨(h.mem b hb).1, hob b hb⟩, hap, fun k hk => ?_, fun a ha r hr => ?_⟩
  · unfold lay2S
    exact (put2_word _ (by omega) n (own2S S n) hob ho h.len _ (by omega) (fun hh => by omega)).symm
  · have hx := getD_lt hob a
    unfold lay2S
    have hx2 : (own2S S n).getD a 0 < 256 := hx
    generalize hg : (own2S S n).getD a 0 = x at *
    exact (put2_word _ (by omega) n (own2S S n) hob ho h.len _ (by omega) (fun _ => by rw [← hg]; exact h.zero _ (getD_in0 ha) r hr)).symm
theorem lay2S_out (S : Sh) (i : Int) (hi : 0 ≤ i ∧ i < 32) (n : Ino) (hfree : need2 n ≤ freeN S) (j : Int) (h8 : 820 ≤ j) (hj : j < 824 + i * 8 ∨ 832 + i * 8 ≤ j) (hx : ∀ x ∈ own2S S n, j < 1080 + (x : Int) * 8 ∨ 1088 + (x : Int) * 8 ≤ j) : (lay2S S i n).get j = S.get j := by
  have h := tookN S (need2 n) hfree
  have hob : ∀ b ∈ own2S S n, b < 256 := fun b hb => (h.mem b hb).2.1
  unfold lay2S
  have := put2_out (takeFrom 255 S 1 (need2 n)).1 (at_ := 824 + i * 8) (by omega) n (own2S S n) hob h.len j (by omega) (fun a ha => hx _ (getD_in0 ha))
  refine Eq.trans this ?_
  exact h.out j h8 hx
end Go.Proofs.Ytfpnmphmngdkdaa
