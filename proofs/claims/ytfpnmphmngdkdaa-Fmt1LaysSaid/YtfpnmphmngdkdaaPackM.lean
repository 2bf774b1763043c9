/-
  Bytes of words, words of bytes, and the sum: plain functions on natural numbers. No program here.
-/
namespace Go.Proofs.Ytfpnmphmngdkdaa.PackM

def byteAt (w i : Nat) : Nat := w / 256 ^ i % 256

theorem byteAt_lt (w i : Nat) : byteAt w i < 256 := Nat.mod_lt _ (by decide)

def bytes (w : Nat) : List Nat := [byteAt w 0, byteAt w 1, byteAt w 2, byteAt w 3, byteAt w 4, byteAt w 5, byteAt w 6, byteAt w 7]

theorem bytes_length (w : Nat) : (bytes w).length = 8 := rfl

theorem bytes_getD (w i : Nat) (h : i < 8) : (bytes w).getD i 0 = byteAt w i := by
  match i, h with
  | 0, _ => rfl
  | 1, _ => rfl
  | 2, _ => rfl
  | 3, _ => rfl
  | 4, _ => rfl
  | 5, _ => rfl
  | 6, _ => rfl
  | 7, _ => rfl

theorem bytes_lt (w : Nat) : ∀ c ∈ bytes w, c < 256 := by
  intro c hc
  simp only [bytes, List.mem_cons, List.not_mem_nil, or_false] at hc
  rcases hc with rfl | rfl | rfl | rfl | rfl | rfl | rfl | rfl <;> exact byteAt_lt _ _

def join : List Nat → Nat
  | [] => 0
  | c :: l => c + 256 * join l

theorem join_lt (l : List Nat) (h : ∀ c ∈ l, c < 256) : join l < 256 ^ l.length := by
  induction l with
  | nil => simp [join]
  | cons c l ih =>
    have h1 := ih (fun x hx => h x (by simp [hx]))
    have h2 := h c (by simp)
    simp only [join, List.length_cons, Nat.pow_succ]
    omega

theorem join_bytes (w : Nat) (h : w < 18446744073709551616) : join (bytes w) = w := by
  simp only [bytes, join, byteAt]
  omega

theorem byteAt_zero (w : Nat) : byteAt w 0 = w % 256 := by simp [byteAt]
theorem byteAt_succ (w i : Nat) : byteAt w (i + 1) = byteAt (w / 256) i := by
  unfold byteAt
  rw [Nat.pow_succ, Nat.mul_comm (256 ^ i), ← Nat.div_div_eq_div_mul]

theorem byteAt_join (l : List Nat) : ∀ (i : Nat), (∀ c ∈ l, c < 256) → byteAt (join l) i = l.getD i 0 := by
  induction l with
  | nil => intro i _; simp [join, byteAt]
  | cons c l ih =>
    intro i h
    have hc := h c (by simp)
    cases i with
    | zero => rw [byteAt_zero]; simp only [join, List.getD_cons_zero]; omega
    | succ i =>
      rw [byteAt_succ]
      have e : join (c :: l) / 256 = join l := by simp only [join]; omega
      rw [e, ih i (fun x hx => h x (by simp [hx]))]
      rfl

/-- Of the first bytes. -/
def joinTo (l : List Nat) : Nat → Nat
  | 0 => 0
  | k + 1 => joinTo l k + l.getD k 0 * 256 ^ k

theorem joinTo_lt (l : List Nat) (h : ∀ c ∈ l, c < 256) (k : Nat) : joinTo l k < 256 ^ k := by
  induction k with
  | zero => simp [joinTo]
  | succ k ih =>
    have hc : l.getD k 0 < 256 := by
      by_cases hk : k < l.length
      · rw [List.getD_eq_getElem?_getD, List.getElem?_eq_getElem hk]
        exact h _ (List.getElem_mem hk)
      · rw [List.getD_eq_getElem?_getD, List.getElem?_eq_none (by omega)]
        simp
    simp only [joinTo, Nat.pow_succ]
    have : l.getD k 0 * 256 ^ k ≤ 255 * 256 ^ k := Nat.mul_le_mul_right _ (by omega)
    omega

theorem joinTo_eq (l : List Nat) (hl : l.length = 8) : joinTo l 8 = join l := by
  match l, hl with
  | [a, b, c, d, e, f, g, h], _ => simp [joinTo, join]; omega

/-! ### The sum -/
/-- (Behind a choice: so that nothing opens the product by counting.) -/
noncomputable def step (h c : Nat) : Nat := Classical.choose (⟨_, rfl⟩ : ∃ x, x = (h ^^^ c) * 16777619 % 4294967296)
theorem step_eq (h c : Nat) : step h c = (h ^^^ c) * 16777619 % 4294967296 := Classical.choose_spec (⟨_, rfl⟩ : ∃ x, x = (h ^^^ c) * 16777619 % 4294967296)

noncomputable def sumB : Nat → List Nat → Nat
  | h, [] => h
  | h, c :: l => sumB (step h c) l

noncomputable def sumW (h : Nat) (l : List Nat) : Nat := l.foldl (fun h w => sumB h (bytes w)) h

def seed : Nat := 2166136261
theorem seed_lt : seed < 4294967296 := by decide

noncomputable def sum (l : List Nat) : Nat := sumW seed l

theorem step_lt (h c : Nat) : step h c < 4294967296 := by rw [step_eq]; exact Nat.mod_lt _ (by decide)

theorem sumB_lt (l : List Nat) : ∀ h, h < 4294967296 → sumB h l < 4294967296 := by
  induction l with
  | nil => intro h hh; exact hh
  | cons c l ih => intro h _; exact ih _ (step_lt _ _)

theorem sumW_lt (l : List Nat) : ∀ h, h < 4294967296 → sumW h l < 4294967296 := by
  induction l with
  | nil => intro h hh; exact hh
  | cons w l ih => intro h hh; exact ih _ (sumB_lt _ _ hh)

theorem sum_lt (l : List Nat) : sum l < 4294967296 := sumW_lt l _ seed_lt

/-- Of the first words, and of the first bytes of one. -/
noncomputable def sumTo (l : List Nat) : Nat → Nat
  | 0 => seed
  | k + 1 => sumB (sumTo l k) (bytes (l.getD k 0))

noncomputable def sumBTo (h w : Nat) : Nat → Nat
  | 0 => h
  | k + 1 => step (sumBTo h w k) (byteAt w k)

theorem sumBTo_eq (h w : Nat) : sumBTo h w 8 = sumB h (bytes w) := rfl

theorem sumTo_lt (l : List Nat) (k : Nat) : sumTo l k < 4294967296 := by
  cases k with
  | zero => exact seed_lt
  | succ k =>
    induction k with
    | zero => exact sumB_lt _ _ seed_lt
    | succ k ih => exact sumB_lt _ _ ih

theorem sumBTo_lt (h w k : Nat) (hh : h < 4294967296) : sumBTo h w k < 4294967296 := by
  cases k with
  | zero => exact hh
  | succ k => exact step_lt _ _

theorem sumTo_eq (l : List Nat) : sumTo l l.length = sum l := by
  have h : ∀ k, k ≤ l.length → sumTo l k = sumW seed (l.take k) := by
    intro k hk
    induction k with
    | zero => simp only [sumTo, sumW, List.take_zero, List.foldl_nil]
    | succ k ih =>
      have hlt : k < l.length := hk
      have e : l.getD k 0 = l[k] := by simp [hlt]
      have e2 : ∀ (a b : List Nat) (h : Nat), sumW h (a ++ b) = sumW (sumW h a) b := fun a b h => by unfold sumW; exact List.foldl_append
      have e3 : ∀ (h x : Nat), sumW h [x] = sumB h (bytes x) := fun h x => by simp only [sumW, List.foldl_cons, List.foldl_nil]
      rw [List.take_succ_eq_append_getElem hlt, e2, e3, ← ih (by omega), ← e]
      simp only [sumTo]
  have h2 := h l.length (Nat.le_refl _)
  rw [List.take_length] at h2
  unfold sum
  exact h2

/-! ### One byte otherwise makes another sum -/

theorem prime_inv : 16777619 * 899433627 = 3513497 * 4294967296 + 1 := by decide

theorem unmul {a : Nat} (ha : a < 4294967296) : a * 16777619 % 4294967296 * 899433627 % 4294967296 = a := by
  rw [Nat.mod_mul_mod, Nat.mul_assoc, prime_inv, Nat.mul_add, Nat.mul_one, ← Nat.mul_assoc, Nat.mul_comm _ 4294967296, Nat.mul_add_mod, Nat.mod_eq_of_lt ha]

theorem mul_inj {a b : Nat} (ha : a < 4294967296) (hb : b < 4294967296) (h : a * 16777619 % 4294967296 = b * 16777619 % 4294967296) : a = b := by
  rw [← unmul ha, ← unmul hb, h]

theorem xor_lt {a b : Nat} (ha : a < 4294967296) (hb : b < 4294967296) : a ^^^ b < 4294967296 := Nat.xor_lt_two_pow (n := 32) ha hb

theorem step_inj_left {h h' c : Nat} (h1 : h < 4294967296) (h2 : h' < 4294967296) (hc : c < 256) (e : step h c = step h' c) : h = h' := by
  rw [step_eq, step_eq] at e
  have := mul_inj (xor_lt h1 (by omega)) (xor_lt h2 (by omega)) e
  have e2 := congrArg (· ^^^ c) this
  simpa [Nat.xor_assoc] using e2

theorem step_inj_right {h c c' : Nat} (h1 : h < 4294967296) (hc : c < 256) (hc' : c' < 256) (e : step h c = step h c') : c = c' := by
  rw [step_eq, step_eq] at e
  have := mul_inj (xor_lt h1 (by omega)) (xor_lt h1 (by omega)) e
  have e2 := congrArg (h ^^^ ·) this
  simpa [← Nat.xor_assoc] using e2

theorem sumB_inj (l : List Nat) (hl : ∀ c ∈ l, c < 256) : ∀ {h h' : Nat}, h < 4294967296 → h' < 4294967296 → sumB h l = sumB h' l → h = h' := by
  induction l with
  | nil => intro h h' _ _ e; exact e
  | cons c l ih =>
    intro h h' h1 h2 e
    exact step_inj_left h1 h2 (hl c (by simp)) (ih (fun x hx => hl x (by simp [hx])) (step_lt _ _) (step_lt _ _) e)

theorem sumW_inj (l : List Nat) : ∀ {h h' : Nat}, h < 4294967296 → h' < 4294967296 → sumW h l = sumW h' l → h = h' := by
  induction l with
  | nil => intro h h' _ _ e; exact e
  | cons w l ih =>
    intro h h' h1 h2 e
    exact sumB_inj _ (bytes_lt w) h1 h2 (ih (sumB_lt _ _ h1) (sumB_lt _ _ h2) e)

theorem sumB_set (l : List Nat) (hl : ∀ c ∈ l, c < 256) : ∀ (k : Nat) (c' h : Nat), h < 4294967296 → k < l.length → c' < 256 → l.getD k 0 ≠ c' → sumB h (l.set k c') ≠ sumB h l := by
  induction l with
  | nil => intro k c' h _ hk; simp at hk
  | cons c l ih =>
    intro k c' h hh hk hc' hne e
    cases k with
    | zero =>
      simp only [List.set_cons_zero, sumB, List.getD_cons_zero] at e hne
      have := sumB_inj l (fun x hx => hl x (by simp [hx])) (step_lt _ _) (step_lt _ _) e
      exact hne (step_inj_right hh hc' (hl c (by simp)) this).symm
    | succ k =>
      simp only [List.set_cons_succ, sumB] at e
      exact ih (fun x hx => hl x (by simp [hx])) k c' _ (step_lt _ _) (by simpa using hk) hc' (by simpa using hne) e

theorem sumW_set (l : List Nat) : ∀ (k : Nat) (w' h : Nat), h < 4294967296 → k < l.length → (∀ h, h < 4294967296 → sumB h (bytes w') ≠ sumB h (bytes (l.getD k 0))) → sumW h (l.set k w') ≠ sumW h l := by
  induction l with
  | nil => intro k w' h _ hk; simp at hk
  | cons w l ih =>
    intro k w' h hh hk hne e
    cases k with
    | zero =>
      simp only [List.set_cons_zero, sumW, List.foldl_cons, List.getD_cons_zero] at e hne
      exact hne h hh (sumW_inj l (sumB_lt _ _ hh) (sumB_lt _ _ hh) e)
    | succ k =>
      simp only [List.set_cons_succ, sumW, List.foldl_cons] at e
      exact ih k w' _ (sumB_lt _ _ hh) (by simpa using hk) (by simpa using hne) e

/-- The word's bytes behind 'w ^ by << 8*at'. -/
theorem byteAt_xor (w b at_ i : Nat) (hb : b < 256) : byteAt (w ^^^ (b * 256 ^ at_)) i = if i = at_ then byteAt w i ^^^ b else byteAt w i := by
  have e : ∀ x i : Nat, byteAt x i = (x >>> (8 * i)) % 2 ^ 8 := by
    intro x i
    rw [Nat.shiftRight_eq_div_pow, byteAt, show (256 : Nat) = 2 ^ 8 from rfl, ← Nat.pow_mul]
  have e2 : b * 256 ^ at_ = b <<< (8 * at_) := by rw [Nat.shiftLeft_eq, show (256 : Nat) = 2 ^ 8 from rfl, ← Nat.pow_mul]
  apply Nat.eq_of_testBit_eq
  intro j
  rw [e2, e]
  have hbj : ∀ j, 8 ≤ j → b.testBit j = false := fun j hj => Nat.testBit_lt_two_pow (Nat.lt_of_lt_of_le hb (Nat.pow_le_pow_right (n := 2) (by decide) hj))
  by_cases hi : i = at_
  · subst hi
    rw [if_pos rfl, e]
    simp only [Nat.testBit_mod_two_pow, Nat.testBit_shiftRight, Nat.testBit_xor, Nat.testBit_shiftLeft]
    by_cases hj : j < 8
    · simp [hj]
    · simp [hj, hbj j (by omega)]
  · rw [if_neg hi, e]
    simp only [Nat.testBit_mod_two_pow, Nat.testBit_shiftRight, Nat.testBit_xor, Nat.testBit_shiftLeft]
    by_cases hj : j < 8
    · simp only [hj, decide_true, Bool.true_and]
      by_cases hlt : 8 * at_ ≤ 8 * i + j
      · have : 8 ≤ 8 * i + j - 8 * at_ := by omega
        simp [hlt, hbj _ this]
      · simp [hlt]
    · simp [hj]

theorem bytes_xor (w b a : Nat) (hb : b < 256) (ha : a < 8) : bytes (w ^^^ (b * 256 ^ a)) = (bytes w).set a (byteAt w a ^^^ b) := by
  simp only [bytes, byteAt_xor w b a _ hb]
  match a, ha with
  | 0, _ => rfl
  | 1, _ => rfl
  | 2, _ => rfl
  | 3, _ => rfl
  | 4, _ => rfl
  | 5, _ => rfl
  | 6, _ => rfl
  | 7, _ => rfl

/-- A word otherwise in one byte makes another sum. -/
theorem sum_otherwise (l : List Nat) (k b a : Nat) (hk : k < l.length) (hb : b < 256) (hb0 : b ≠ 0) (ha : a < 8) : sum (l.set k (l.getD k 0 ^^^ (b * 256 ^ a))) ≠ sum l := by
  unfold sum
  refine sumW_set l k _ _ seed_lt hk ?_
  intro h hh
  rw [bytes_xor _ _ _ hb ha]
  refine sumB_set _ (bytes_lt _) a _ h hh (by rw [bytes_length]; exact ha) ?_ ?_
  · exact Nat.xor_lt_two_pow (n := 8) (byteAt_lt _ _) hb
  · rw [bytes_getD _ _ ha]
    intro e
    have := congrArg (byteAt (l.getD k 0) a ^^^ ·) e
    simp only [Nat.xor_self, ← Nat.xor_assoc, Nat.zero_xor] at this
    exact hb0 this.symm

end Go.Proofs.Ytfpnmphmngdkdaa.PackM
