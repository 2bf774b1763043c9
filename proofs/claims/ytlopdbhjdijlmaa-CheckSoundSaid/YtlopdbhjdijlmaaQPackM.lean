/-
  Bytes of words, words of bytes, and the sum: plain functions on natural numbers. No program here.
  An element of an array value, as a rule of the walk, at the program's own array types. No condition but the index in its bounds.
  What the functions of package pack and of its reference answer: contracts. No condition but the bounds that are typed.
  What the two functions Good (of package pack, and of its reference) answer: contracts. No condition but the reach.
  What Word and its reference answer, of texts that are names and of others: contracts. No condition but the reach.
  What pack.Name, pack.Sum, pack.Bucket, and the reference's Sum and Byte answer: contracts. No condition but the bounds that are typed.
  What pack.Sum, pack.Bucket, and the reference's Sum and Byte answer: contracts. No condition but the bounds that are typed.
  A name's word says that name again: plain lemmas.
-/
import Derived.Test.YtlopdbhjdijlmaaQLib
import Derived.Test.YtlopdbhjdijlmaaQTxM
import Derived.Lib.BufferWrite

namespace Go.Proofs.Ytlopdbhjdijlmaa.PackM

def byteAt (w i : Nat) : Nat := w / 256 ^ i % 256

theorem byteAt_lt (w i : Nat) : byteAt w i < 256 := Nat.mod_lt _ (by decide)

def bytes (w : Nat) : List Nat := [byteAt w 0, byteAt w 1, byteAt w 2, byteAt w 3, byteAt w 4, byteAt w 5, byteAt w 6, byteAt w 7]

theorem bytes_length (w : Nat) : (bytes w).length = 8 := rfl

theorem bytes_getD (w i : Nat) (h : i < 8) : (bytes w).getD i 0 = byteAt w i := by
  match i, h with
  | 0, _ => rfl
  | 1, _ => rfl
  | 2, _ => rfl
  | 3, _ => rfl
  | 4, _ => rfl
  | 5, _ => rfl
  | 6, _ => rfl
  | 7, _ => rfl

theorem bytes_lt (w : Nat) : ∀ c ∈ bytes w, c < 256 := by
  intro c hc
  simp only [bytes, List.mem_cons, List.not_mem_nil, or_false] at hc
  rcases hc with rfl | rfl | rfl | rfl | rfl | rfl | rfl | rfl <;> exact byteAt_lt _ _

def join : List Nat → Nat
  | [] => 0
  | c :: l => c + 256 * join l

theorem join_lt (l : List Nat) (h : ∀ c ∈ l, c < 256) : join l < 256 ^ l.length := by
  induction l with
  | nil => simp [join]
  | cons c l ih =>
    have h1 := ih (fun x hx => h x (by simp [hx]))
    have h2 := h c (by simp)
    simp only [join, List.length_cons, Nat.pow_succ]
    omega

theorem join_bytes (w : Nat) (h : w < 18446744073709551616) : join (bytes w) = w := by
  simp only [bytes, join, byteAt]
  omega

theorem byteAt_zero (w : Nat) : byteAt w 0 = w % 256 := by simp [byteAt]
theorem byteAt_succ (w i : Nat) : byteAt w (i + 1) = byteAt (w / 256) i := by
  unfold byteAt
  rw [Nat.pow_succ, Nat.mul_comm (256 ^ i), ← Nat.div_div_eq_div_mul]

theorem byteAt_join (l : List Nat) : ∀ (i : Nat), (∀ c ∈ l, c < 256) → byteAt (join l) i = l.getD i 0 := by
  induction l with
  | nil => intro i _; simp [join, byteAt]
  | cons c l ih =>
    intro i h
    have hc := h c (by simp)
    cases i with
    | zero => rw [byteAt_zero]; simp only [join, List.getD_cons_zero]; omega
    | succ i =>
      rw [byteAt_succ]
      have e : join (c :: l) / 256 = join l := by simp only [join]; omega
      rw [e, ih i (fun x hx => h x (by simp [hx]))]
      rfl

/-- Of the first bytes. -/
def joinTo (l : List Nat) : Nat → Nat
  | 0 => 0
  | k + 1 => joinTo l k + l.getD k 0 * 256 ^ k

theorem joinTo_lt (l : List Nat) (h : ∀ c ∈ l, c < 256) (k : Nat) : joinTo l k < 256 ^ k := by
  induction k with
  | zero => simp [joinTo]
  | succ k ih =>
    have hc : l.getD k 0 < 256 := by
      by_cases hk : k < l.length
      · rw [List.getD_eq_getElem?_getD, List.getElem?_eq_getElem hk]
        exact h _ (List.getElem_mem hk)
      · rw [List.getD_eq_getElem?_getD, List.getElem?_eq_none (by omega)]
        simp
    simp only [joinTo, Nat.pow_succ]
    have : l.getD k 0 * 256 ^ k ≤ 255 * 256 ^ k := Nat.mul_le_mul_right _ (by omega)
    omega

theorem joinTo_eq (l : List Nat) (hl : l.length = 8) : joinTo l 8 = join l := by
  match l, hl with
  | [a, b, c, d, e, f, g, h], _ => simp [joinTo, join]; omega

/-! ### The sum -/
/-- (Behind a choice: so that nothing opens the product by counting.) -/
noncomputable def step (h c : Nat) : Nat := Classical.choose (⟨_, rfl⟩ : ∃ x, x = (h ^^^ c) * 16777619 % 4294967296)
theorem step_eq (h c : Nat) : step h c = (h ^^^ c) * 16777619 % 4294967296 := Classical.choose_spec (⟨_, rfl⟩ : ∃ x, x = (h ^^^ c) * 16777619 % 4294967296)

noncomputable def sumB : Nat → List Nat → Nat
  | h, [] => h
  | h, c :: l => sumB (step h c) l

noncomputable def sumW (h : Nat) (l : List Nat) : Nat := l.foldl (fun h w => sumB h (bytes w)) h

def seed : Nat := 2166136261
theorem seed_lt : seed < 4294967296 := by decide

noncomputable def sum (l : List Nat) : Nat := sumW seed l

theorem step_lt (h c : Nat) : step h c < 4294967296 := by rw [step_eq]; exact Nat.mod_lt _ (by decide)

theorem sumB_lt (l : List Nat) : ∀ h, h < 4294967296 → sumB h l < 4294967296 := by
  induction l with
  | nil => intro h hh; exact hh
  | cons c l ih => intro h _; exact ih _ (step_lt _ _)

theorem sumW_lt (l : List Nat) : ∀ h, h < 4294967296 → sumW h l < 4294967296 := by
  induction l with
  | nil => intro h hh; exact hh
  | cons w l ih => intro h hh; exact ih _ (sumB_lt _ _ hh)

theorem sum_lt (l : List Nat) : sum l < 4294967296 := sumW_lt l _ seed_lt

/-- Of the first words, and of the first bytes of one. -/
noncomputable def sumTo (l : List Nat) : Nat → Nat
  | 0 => seed
  | k + 1 => sumB (sumTo l k) (bytes (l.getD k 0))

noncomputable def sumBTo (h w : Nat) : Nat → Nat
  | 0 => h
  | k + 1 => step (sumBTo h w k) (byteAt w k)

theorem sumBTo_eq (h w : Nat) : sumBTo h w 8 = sumB h (bytes w) := rfl

theorem sumTo_lt (l : List Nat) (k : Nat) : sumTo l k < 4294967296 := by
  cases k with
  | zero => exact seed_lt
  | succ k =>
    induction k with
    | zero => exact sumB_lt _ _ seed_lt
    | succ k ih => exact sumB_lt _ _ ih

theorem sumBTo_lt (h w k : Nat) (hh : h < 4294967296) : sumBTo h w k < 4294967296 := by
  cases k with
  | zero => exact hh
  | succ k => exact step_lt _ _

theorem sumTo_eq (l : List Nat) : sumTo l l.length = sum l := by
  have h : ∀ k, k ≤ l.length → sumTo l k = sumW seed (l.take k) := by
    intro k hk
    induction k with
    | zero => simp only [sumTo, sumW, List.take_zero, List.foldl_nil]
    | succ k ih =>
      have hlt : k < l.length := hk
      have e : l.getD k 0 = l[k] := by simp [hlt]
      have e2 : ∀ (a b : List Nat) (h : Nat), sumW h (a ++ b) = sumW (sumW h a) b := fun a b h => by unfold sumW; exact List.foldl_append
      have e3 : ∀ (h x : Nat), sumW h [x] = sumB h (bytes x) := fun h x => by simp only [sumW, List.foldl_cons, List.foldl_nil]
      rw [List.take_succ_eq_append_getElem hlt, e2, e3, ← ih (by omega), ← e]
      simp only [sumTo]
  have h2 := h l.length (Nat.le_refl _)
  rw [List.take_length] at h2
  unfold sum
  exact h2

/-! ### One byte otherwise makes another sum -/

theorem prime_inv : 16777619 * 899433627 = 3513497 * 4294967296 + 1 := by decide

theorem unmul {a : Nat} (ha : a < 4294967296) : a * 16777619 % 4294967296 * 899433627 % 4294967296 = a := by
  rw [Nat.mod_mul_mod, Nat.mul_assoc, prime_inv, Nat.mul_add, Nat.mul_one, ← Nat.mul_assoc, Nat.mul_comm _ 4294967296, Nat.mul_add_mod, Nat.mod_eq_of_lt ha]

theorem mul_inj {a b : Nat} (ha : a < 4294967296) (hb : b < 4294967296) (h : a * 16777619 % 4294967296 = b * 16777619 % 4294967296) : a = b := by
  rw [← unmul ha, ← unmul hb, h]

theorem xor_lt {a b : Nat} (ha : a < 4294967296) (hb : b < 4294967296) : a ^^^ b < 4294967296 := Nat.xor_lt_two_pow (n := 32) ha hb

theorem step_inj_left {h h' c : Nat} (h1 : h < 4294967296) (h2 : h' < 4294967296) (hc : c < 256) (e : step h c = step h' c) : h = h' := by
  rw [step_eq, step_eq] at e
  have := mul_inj (xor_lt h1 (by omega)) (xor_lt h2 (by omega)) e
  have e2 := congrArg (· ^^^ c) this
  simpa [Nat.xor_assoc] using e2

theorem step_inj_right {h c c' : Nat} (h1 : h < 4294967296) (hc : c < 256) (hc' : c' < 256) (e : step h c = step h c') : c = c' := by
  rw [step_eq, step_eq] at e
  have := mul_inj (xor_lt h1 (by omega)) (xor_lt h1 (by omega)) e
  have e2 := congrArg (h ^^^ ·) this
  simpa [← Nat.xor_assoc] using e2

theorem sumB_inj (l : List Nat) (hl : ∀ c ∈ l, c < 256) : ∀ {h h' : Nat}, h < 4294967296 → h' < 4294967296 → sumB h l = sumB h' l → h = h' := by
  induction l with
  | nil => intro h h' _ _ e; exact e
  | cons c l ih =>
    intro h h' h1 h2 e
    exact step_inj_left h1 h2 (hl c (by simp)) (ih (fun x hx => hl x (by simp [hx])) (step_lt _ _) (step_lt _ _) e)

theorem sumW_inj (l : List Nat) : ∀ {h h' : Nat}, h < 4294967296 → h' < 4294967296 → sumW h l = sumW h' l → h = h' := by
  induction l with
  | nil => intro h h' _ _ e; exact e
  | cons w l ih =>
    intro h h' h1 h2 e
    exact sumB_inj _ (bytes_lt w) h1 h2 (ih (sumB_lt _ _ h1) (sumB_lt _ _ h2) e)

theorem sumB_set (l : List Nat) (hl : ∀ c ∈ l, c < 256) : ∀ (k : Nat) (c' h : Nat), h < 4294967296 → k < l.length → c' < 256 → l.getD k 0 ≠ c' → sumB h (l.set k c') ≠ sumB h l := by
  induction l with
  | nil => intro k c' h _ hk; simp at hk
  | cons c l ih =>
    intro k c' h hh hk hc' hne e
    cases k with
    | zero =>
      simp only [List.set_cons_zero, sumB, List.getD_cons_zero] at e hne
      have := sumB_inj l (fun x hx => hl x (by simp [hx])) (step_lt _ _) (step_lt _ _) e
      exact hne (step_inj_right hh hc' (hl c (by simp)) this).symm
    | succ k =>
      simp only [List.set_cons_succ, sumB] at e
      exact ih (fun x hx => hl x (by simp [hx])) k c' _ (step_lt _ _) (by simpa using hk) hc' (by simpa using hne) e

theorem sumW_set (l : List Nat) : ∀ (k : Nat) (w' h : Nat), h < 4294967296 → k < l.length → (∀ h, h < 4294967296 → sumB h (bytes w') ≠ sumB h (bytes (l.getD k 0))) → sumW h (l.set k w') ≠ sumW h l := by
  induction l with
  | nil => intro k w' h _ hk; simp at hk
  | cons w l ih =>
    intro k w' h hh hk hne e
    cases k with
    | zero =>
      simp only [List.set_cons_zero, sumW, List.foldl_cons, List.getD_cons_zero] at e hne
      exact hne h hh (sumW_inj l (sumB_lt _ _ hh) (sumB_lt _ _ hh) e)
    | succ k =>
      simp only [List.set_cons_succ, sumW, List.foldl_cons] at e
      exact ih k w' _ (sumB_lt _ _ hh) (by simpa using hk) (by simpa using hne) e

/-- The word's bytes behind 'w ^ by << 8*at'. -/
theorem byteAt_xor (w b at_ i : Nat) (hb : b < 256) : byteAt (w ^^^ (b * 256 ^ at_)) i = if i = at_ then byteAt w i ^^^ b else byteAt w i := by
  have e : ∀ x i : Nat, byteAt x i = (x >>> (8 * i)) % 2 ^ 8 := by
    intro x i
    rw [Nat.shiftRight_eq_div_pow, byteAt, show (256 : Nat) = 2 ^ 8 from rfl, ← Nat.pow_mul]
  have e2 : b * 256 ^ at_ = b <<< (8 * at_) := by rw [Nat.shiftLeft_eq, show (256 : Nat) = 2 ^ 8 from rfl, ← Nat.pow_mul]
  apply Nat.eq_of_testBit_eq
  intro j
  rw [e2, e]
  have hbj : ∀ j, 8 ≤ j → b.testBit j = false := fun j hj => Nat.testBit_lt_two_pow (Nat.lt_of_lt_of_le hb (Nat.pow_le_pow_right (n := 2) (by decide) hj))
  by_cases hi : i = at_
  · subst hi
    rw [if_pos rfl, e]
    simp only [Nat.testBit_mod_two_pow, Nat.testBit_shiftRight, Nat.testBit_xor, Nat.testBit_shiftLeft]
    by_cases hj : j < 8
    · simp [hj]
    · simp [hj, hbj j (by omega)]
  · rw [if_neg hi, e]
    simp only [Nat.testBit_mod_two_pow, Nat.testBit_shiftRight, Nat.testBit_xor, Nat.testBit_shiftLeft]
    by_cases hj : j < 8
    · simp only [hj, decide_true, Bool.true_and]
      by_cases hlt : 8 * at_ ≤ 8 * i + j
      · have : 8 ≤ 8 * i + j - 8 * at_ := by omega
        simp [hlt, hbj _ this]
      · simp [hlt]
    · simp [hj]

theorem bytes_xor (w b a : Nat) (hb : b < 256) (ha : a < 8) : bytes (w ^^^ (b * 256 ^ a)) = (bytes w).set a (byteAt w a ^^^ b) := by
  simp only [bytes, byteAt_xor w b a _ hb]
  match a, ha with
  | 0, _ => rfl
  | 1, _ => rfl
  | 2, _ => rfl
  | 3, _ => rfl
  | 4, _ => rfl
  | 5, _ => rfl
  | 6, _ => rfl
  | 7, _ => rfl

/-- A word otherwise in one byte makes another sum. -/
theorem sum_otherwise (l : List Nat) (k b a : Nat) (hk : k < l.length) (hb : b < 256) (hb0 : b ≠ 0) (ha : a < 8) : sum (l.set k (l.getD k 0 ^^^ (b * 256 ^ a))) ≠ sum l := by
  unfold sum
  refine sumW_set l k _ _ seed_lt hk ?_
  intro h hh
  rw [bytes_xor _ _ _ hb ha]
  refine sumB_set _ (bytes_lt _) a _ h hh (by rw [bytes_length]; exact ha) ?_ ?_
  · exact Nat.xor_lt_two_pow (n := 8) (byteAt_lt _ _) hb
  · rw [bytes_getD _ _ ha]
    intro e
    have := congrArg (byteAt (l.getD k 0) a ^^^ ·) e
    simp only [Nat.xor_self, ← Nat.xor_assoc, Nat.zero_xor] at this
    exact hb0 this.symm

end Go.Proofs.Ytlopdbhjdijlmaa.PackM

namespace Go.Proofs.Ytlopdbhjdijlmaa
open Go.ChangeShapes Go.WideShapes Go.ChangeAt Go.RowKit

theorem index_arr {t e : TypeId} {n : Nat} {d : TypeDesc} (hu : Try.prog.underlying t = some (.array n e)) (hue : Try.prog.underlying e = some d)
    (hd : aggT d = false) (hs : (Try.prog.info? e).map (·.size) = some 1)
    (cs : Array Value) (i : Int) (h0 : 0 ≤ i) (h1 : i < n) (hn : cs.size = n) (w : World) :
    (Instr.index t (.agg cs) (.int .i64 i)).run Try.prog w = .ok (cs.getD i.toNat undef) w := by
  obtain ⟨k, rfl⟩ := Int.eq_ofNat_of_zero_le h0
  have hk : k < cs.size := by omega
  rw [run_index_arr hu hue hd hs cs .i64 k cs[k] (by omega) (Array.getElem?_eq_getElem hk) w]
  simp [Array.getD, hk]

@[go_sem] theorem index_b8 (cs : Array Value) (i : Int) (w : World) (hn : cs.size = 8) (h0 : 0 ≤ i) (h1 : i < 8) : (Instr.index 141 (.agg cs) (.int .i64 i)).run Try.prog w = .ok (cs.getD i.toNat undef) w :=
  index_arr Try.underlying141 Try.underlying5 rfl (by kernel_rfl) cs i h0 h1 hn w
end Go.Proofs.Ytlopdbhjdijlmaa

namespace Go.Proofs.Ytlopdbhjdijlmaa
open Go.ChangeShapes Go.WideShapes Go.ChangeAt Go.RowKit
set_option linter.unusedSimpArgs false
set_option linter.unusedVariables false

theorem bytes_vals (x : Nat) (hx : x < 18446744073709551616) : #[Value.int IntKind.u8 (↑x % 256), Value.int IntKind.u8 (↑x / 256 % 256), Value.int IntKind.u8 (↑x / 65536 % 256), Value.int IntKind.u8 (↑x / 16777216 % 256), Value.int IntKind.u8 (↑x / 4294967296 % 256), Value.int IntKind.u8 (↑x / 1099511627776 % 256), Value.int IntKind.u8 (↑x / 281474976710656 % 256), Value.int IntKind.u8 (↑x / 72057594037927936)] = #[Value.int IntKind.u8 (PackM.byteAt x 0 : Nat), Value.int IntKind.u8 (PackM.byteAt x 1 : Nat), Value.int IntKind.u8 (PackM.byteAt x 2 : Nat), Value.int IntKind.u8 (PackM.byteAt x 3 : Nat), Value.int IntKind.u8 (PackM.byteAt x 4 : Nat), Value.int IntKind.u8 (PackM.byteAt x 5 : Nat), Value.int IntKind.u8 (PackM.byteAt x 6 : Nat), Value.int IntKind.u8 (PackM.byteAt x 7 : Nat)] := by
  have e : ((x : Int) / 72057594037927936) = (x : Int) / 72057594037927936 % 256 := by omega
  rw [e]
  have b0 : ((PackM.byteAt x 0 : Nat) : Int) = (x : Int) % 256 := by rw [show PackM.byteAt x 0 = x / 1 % 256 from rfl]; omega
  have b1 : ((PackM.byteAt x 1 : Nat) : Int) = (x : Int) / 256 % 256 := by rw [show PackM.byteAt x 1 = x / 256 % 256 from rfl]; omega
  have b2 : ((PackM.byteAt x 2 : Nat) : Int) = (x : Int) / 65536 % 256 := by rw [show PackM.byteAt x 2 = x / 65536 % 256 from rfl]; omega
  have b3 : ((PackM.byteAt x 3 : Nat) : Int) = (x : Int) / 16777216 % 256 := by rw [show PackM.byteAt x 3 = x / 16777216 % 256 from rfl]; omega
  have b4 : ((PackM.byteAt x 4 : Nat) : Int) = (x : Int) / 4294967296 % 256 := by rw [show PackM.byteAt x 4 = x / 4294967296 % 256 from rfl]; omega
  have b5 : ((PackM.byteAt x 5 : Nat) : Int) = (x : Int) / 1099511627776 % 256 := by rw [show PackM.byteAt x 5 = x / 1099511627776 % 256 from rfl]; omega
  have b6 : ((PackM.byteAt x 6 : Nat) : Int) = (x : Int) / 281474976710656 % 256 := by rw [show PackM.byteAt x 6 = x / 281474976710656 % 256 from rfl]; omega
  have b7 : ((PackM.byteAt x 7 : Nat) : Int) = (x : Int) / 72057594037927936 % 256 := by rw [show PackM.byteAt x 7 = x / 72057594037927936 % 256 from rfl]; omega
  rw [b0, b1, b2, b3, b4, b5, b6, b7]

theorem bytes_any (x : Nat) (hx : x < 18446744073709551616) (w : World) :
    Calls Try.prog 104 #[.int .u64 x] w fun e w' => e = .returned (.agg #[Value.int IntKind.u8 (PackM.byteAt x 0 : Nat), Value.int IntKind.u8 (PackM.byteAt x 1 : Nat), Value.int IntKind.u8 (PackM.byteAt x 2 : Nat), Value.int IntKind.u8 (PackM.byteAt x 3 : Nat), Value.int IntKind.u8 (PackM.byteAt x 4 : Nat), Value.int IntKind.u8 (PackM.byteAt x 5 : Nat), Value.int IntKind.u8 (PackM.byteAt x 6 : Nat), Value.int IntKind.u8 (PackM.byteAt x 7 : Nat)]) ∧ Below w.heap.size w w' := by
  have hv := bytes_vals x hx
  have HV := Lib.hid hv
  clear hv
  go_enter Try.func104, Try.ntmps104
  go_wp2
  refine wp_loop_rounds 9 ?_
  repeat any_goals (rw [rounds_succ]; go_wp2)
  rw [← HV.out]
  refine bodyPost_ret (v := .agg #[Value.int IntKind.u8 (↑x % 256), Value.int IntKind.u8 (↑x / 256 % 256), Value.int IntKind.u8 (↑x / 65536 % 256), Value.int IntKind.u8 (↑x / 16777216 % 256), Value.int IntKind.u8 (↑x / 4294967296 % 256), Value.int IntKind.u8 (↑x / 1099511627776 % 256), Value.int IntKind.u8 (↑x / 281474976710656 % 256), Value.int IntKind.u8 (↑x / 72057594037927936)]) (by simp [results, Try.results104, go_sem]) rfl ⟨rfl, ?_⟩
  exact ((Below.refl _ _).alloc (Nat.le_refl _) _).alloc (by simp) _

theorem join_vals (c0 c1 c2 c3 c4 c5 c6 c7 : Nat) (h0 : c0 < 256) (h1 : c1 < 256) (h2 : c2 < 256) (h3 : c3 < 256) (h4 : c4 < 256) (h5 : c5 < 256) (h6 : c6 < 256) (h7 : c7 < 256) :
    bits .or .u64 (bits .or .u64 (bits .or .u64 (bits .or .u64 (bits .or .u64 (bits .or .u64 (bits .or .u64 (bits .or .u64 0 (c0 : Int)) (c1 * 256 : Int)) (c2 * 65536 : Int)) (c3 * 16777216 : Int)) (c4 * 4294967296 : Int)) (c5 * 1099511627776 : Int)) (c6 * 281474976710656 : Int)) (c7 * 72057594037927936 : Int) = (PackM.join [c0, c1, c2, c3, c4, c5, c6, c7] : Nat) := by
  have oc : ∀ (x y : Int), 0 ≤ x → x < 18446744073709551616 → 0 ≤ y → y < 18446744073709551616 → bits .or .u64 x y = bits .or .u64 y x := by
    intro x y a b c d
    rw [u64_or x y a b c d, u64_or y x c d a b, Nat.or_comm]
  have j : ∀ (i : Nat) (x y : Int), 0 ≤ x → x.toNat < 2 ^ i → 0 ≤ y → y.toNat % 2 ^ i = 0 → x < 18446744073709551616 → y < 18446744073709551616 → bits .or .u64 x y = x + y := by
    intro i x y a b c d e f
    rw [oc x y a e c f, u64_join i y x c f d a b e]
    omega
  rw [j 0 0 c0 (by omega) (by decide) (by omega) (Nat.mod_one _) (by omega) (by omega)]
  rw [j 8 _ (c1 * 256) (by omega) (by omega) (by omega) (by omega) (by omega) (by omega)]
  rw [j 16 _ (c2 * 65536) (by omega) (by omega) (by omega) (by omega) (by omega) (by omega)]
  rw [j 24 _ (c3 * 16777216) (by omega) (by omega) (by omega) (by omega) (by omega) (by omega)]
  rw [j 32 _ (c4 * 4294967296) (by omega) (by omega) (by omega) (by omega) (by omega) (by omega)]
  rw [j 40 _ (c5 * 1099511627776) (by omega) (by omega) (by omega) (by omega) (by omega) (by omega)]
  rw [j 48 _ (c6 * 281474976710656) (by omega) (by omega) (by omega) (by omega) (by omega) (by omega)]
  rw [j 56 _ (c7 * 72057594037927936) (by omega) (by omega) (by omega) (by omega) (by omega) (by omega)]
  simp only [PackM.join]
  omega

set_option maxRecDepth 20000 in
theorem join_any8 (c0 c1 c2 c3 c4 c5 c6 c7 : Nat) (h0 : c0 < 256) (h1 : c1 < 256) (h2 : c2 < 256) (h3 : c3 < 256) (h4 : c4 < 256) (h5 : c5 < 256) (h6 : c6 < 256) (h7 : c7 < 256) (w : World) :
    Calls Try.prog 130 #[.agg #[.int .u8 c0, .int .u8 c1, .int .u8 c2, .int .u8 c3, .int .u8 c4, .int .u8 c5, .int .u8 c6, .int .u8 c7]] w fun e w' => e = .returned (.int .u64 (PackM.join [c0, c1, c2, c3, c4, c5, c6, c7] : Nat)) ∧ Below w.heap.size w w' := by
  have hv := join_vals c0 c1 c2 c3 c4 c5 c6 c7 h0 h1 h2 h3 h4 h5 h6 h7
  have HV := Lib.hid hv
  clear hv
  have h0' : (c0 : Int) < 256 := by omega
  have h1' : (c1 : Int) < 256 := by omega
  have h2' : (c2 : Int) < 256 := by omega
  have h3' : (c3 : Int) < 256 := by omega
  have h4' : (c4 : Int) < 256 := by omega
  have h5' : (c5 : Int) < 256 := by omega
  have h6' : (c6 : Int) < 256 := by omega
  have h7' : (c7 : Int) < 256 := by omega
  go_enter Try.func130, Try.ntmps130
  go_wp2
  refine wp_loop_rounds 9 ?_
  repeat any_goals (rw [rounds_succ]; go_wp2)
  trace_state
  go_ret
  refine ⟨?_, (Below.refl _ _).alloc (Nat.le_refl _) _⟩
  rw [← HV.out]
  rfl
end Go.Proofs.Ytlopdbhjdijlmaa

namespace Go.Proofs.Ytlopdbhjdijlmaa
open Go.ChangeShapes Go.WideShapes Go.ChangeAt Go.RowKit
set_option linter.unusedSimpArgs false
set_option linter.unusedVariables false

def okc (c : UInt8) : Bool := decide (33 ≤ c.toNat ∧ c.toNat ≤ 126 ∧ c.toNat ≠ 47)
def goodB (l : List UInt8) : Bool := l.all okc && decide (1 ≤ l.length ∧ l.length ≤ 7) && !(l == [46]) && !(l == [46, 46])

theorem getElem_data (s : ByteArray) (k : Nat) (h : k < s.size) : s.data.toList[k]'(by simpa using h) = s[k] := rfl

theorem good_bad (s : ByteArray) (k : Nat) (h : k < s.size) (hb : okc s[k] = false) : goodB s.data.toList = false := by
  have : s.data.toList.all okc = false := by
    rw [List.all_eq_false]
    exact ⟨s[k], by rw [← getElem_data s k h]; exact List.getElem_mem _, by simp [hb]⟩
  simp [goodB, this]

theorem good_all (s : ByteArray) (h : ∀ j (hj : j < s.size), j < s.size → okc s[j] = true) : s.data.toList.all okc = true := by
  rw [List.all_eq_true]
  intro x hx
  obtain ⟨j, hj, rfl⟩ := List.mem_iff_getElem.1 hx
  have hj' : j < s.size := by simpa using hj
  exact h j hj' hj'

theorem good_fin (s : ByteArray) (h : s.data.toList.all okc = true) : goodB s.data.toList = (decide (1 ≤ (s.size : Int)) && decide ((s.size : Int) ≤ 7) && !(s.toList == [46]) && !(s.toList == [46, 46])) := by
  have e : s.toList = s.data.toList := ByteArray.toList_eq s
  have e2 : s.data.toList.length = s.size := by simp
  unfold goodB
  rw [h, e, e2, Bool.true_and]
  congr 2
  rw [Bool.eq_iff_iff]
  simp
  omega

theorem all_step (s : ByteArray) (k : Nat) (h : k < s.size) (hA : ∀ j (hj : j < s.size), j < k → okc s[j] = true) (hk : okc s[k] = true) : ∀ j (hj : j < s.size), j < k + 1 → okc s[j] = true := by
  intro j hj hlt
  by_cases e : j = k
  · subst e; exact hk
  · exact hA j hj (by omega)

set_option maxHeartbeats 400000 in
theorem good_any (s : ByteArray) (hs : s.size ≤ maxLen) (w : World) :
    Calls Try.prog 110 #[.string s] w fun e w' => e = .returned (.bool (goodB s.data.toList)) ∧ w = w' := by
  unfold maxLen at hs
  go_enter Try.func110, Try.ntmps110
  go_wp2
  go_loopg [3, 6] s.size (fun g i c wr => ∃ k : Nat, k + g = s.size ∧ c = .int .i64 k ∧ w = wr ∧ Hid (∀ j (hj : j < s.size), j < k → okc s[j] = true))
  case atStart => exact ⟨0, by omega, rfl, rfl, by intro j hj h; omega⟩
  case round =>
    obtain ⟨k, hk, rfl, rfl, HA⟩ := hrel
    by_cases hlt : k < s.size
    · by_cases hb : okc s[k] = true
      · have HA2 := Lib.hid (all_step s k hlt HA.out hb)
        have hc : 33 ≤ s[k].toNat ∧ s[k].toNat ≤ 126 ∧ s[k].toNat ≠ 47 := by simpa [okc] using hb
        obtain ⟨h1, h2, h3⟩ := hc
        have h4 : ((s[k].toNat : Int) == 47) = false := by simp; omega
        clear hb h3
        go_wp2
        go_roundg (gk - 1)
        case measure => omega
        case rel => exact ⟨k + 1, by omega, by go_num, rfl, HA2⟩
      · have HB := Lib.hid (good_bad s k hlt (by simpa using hb))
        have hc : s[k].toNat < 33 ∨ (33 ≤ s[k].toNat ∧ 126 < s[k].toNat) ∨ (33 ≤ s[k].toNat ∧ s[k].toNat ≤ 126 ∧ s[k].toNat = 47) := by
          have : ¬ (33 ≤ s[k].toNat ∧ s[k].toNat ≤ 126 ∧ s[k].toNat ≠ 47) := by simpa [okc] using hb
          omega
        clear hb
        rcases hc with hc | ⟨hc, hd⟩ | ⟨hc, hd, he⟩
        · go_wp2
          go_ret
          rw [HB.out]
          exact ⟨rfl, rfl⟩
        · go_wp2
          go_ret
          rw [HB.out]
          exact ⟨rfl, rfl⟩
        · have h4 : ((s[k].toNat : Int) == 47) = true := by simp; omega
          clear he
          go_wp2
          go_ret
          rw [HB.out]
          exact ⟨rfl, rfl⟩
    · have hk0 : gk = 0 := by omega
      have HALL := Lib.hid (good_all s (fun j hj _ => HA.out j hj (by omega)))
      have HG := Lib.hid (good_fin s HALL.out)
      go_wp2
      all_goals
        go_ret
        refine ⟨?_, rfl⟩
        rw [HG.out]
        first
        | rfl
        | (simp [*]; done)
        | (simp [*]; omega)
theorem good_fin2 (s : ByteArray) (h : s.data.toList.all okc = true) : goodB s.data.toList = (decide (0 < (s.size : Int)) && decide ((s.size : Int) < 8) && !(s.toList == [46]) && !(s.toList == [46, 46])) := by
  rw [good_fin s h]
  congr 2
  rw [Bool.eq_iff_iff]
  simp
  omega

set_option maxHeartbeats 400000 in
set_option maxRecDepth 20000 in
theorem ref_good (s : ByteArray) (hs : s.size ≤ maxLen) (w : World) :
    Calls Try.prog 46 #[.string s] w fun e w' => e = .returned (.bool (goodB s.data.toList)) ∧ w = w' := by
  unfold maxLen at hs
  go_enter Try.func46, Try.ntmps46
  go_wp2
  go_loopg [3] s.size (fun g c wr => ∃ k : Nat, k + g = s.size ∧ c = .int .i64 k ∧ w = wr ∧ Hid (∀ j (hj : j < s.size), j < k → okc s[j] = true))
  case atStart => exact ⟨0, by omega, rfl, rfl, by intro j hj h; omega⟩
  case round =>
    obtain ⟨k, hk, rfl, rfl, HA⟩ := hrel
    by_cases hlt : k < s.size
    · by_cases hb : okc s[k] = true
      · have HA2 := Lib.hid (all_step s k hlt HA.out hb)
        have hc : 33 ≤ s[k].toNat ∧ s[k].toNat ≤ 126 ∧ s[k].toNat ≠ 47 := by simpa [okc] using hb
        obtain ⟨h1', h2', h3⟩ := hc
        have h1 : 32 < s[k].toNat := h1'
        have h2 : s[k].toNat < 127 := by omega
        have h4 : ((s[k].toNat : Int) == 47) = false := by simp; omega
        clear hb h3
        go_wp2
        go_roundg (gk - 1)
        case measure => omega
        case rel => exact ⟨k + 1, by omega, by go_num, rfl, HA2⟩
      · have HB := Lib.hid (good_bad s k hlt (by simpa using hb))
        have hc : s[k].toNat ≤ 32 ∨ (32 < s[k].toNat ∧ 127 ≤ s[k].toNat) ∨ (32 < s[k].toNat ∧ s[k].toNat < 127 ∧ s[k].toNat = 47) := by
          have : ¬ (33 ≤ s[k].toNat ∧ s[k].toNat ≤ 126 ∧ s[k].toNat ≠ 47) := by simpa [okc] using hb
          omega
        clear hb
        rcases hc with hc | ⟨hc, hd⟩ | ⟨hc, hd, he⟩
        · go_wp2
          go_ret
          rw [HB.out]
          exact ⟨rfl, rfl⟩
        · go_wp2
          go_ret
          rw [HB.out]
          exact ⟨rfl, rfl⟩
        · have h4 : ((s[k].toNat : Int) == 47) = true := by simp; omega
          clear he
          go_wp2
          go_ret
          rw [HB.out]
          exact ⟨rfl, rfl⟩
    · have hk0 : gk = 0 := by omega
      have HALL := Lib.hid (good_all s (fun j hj _ => HA.out j hj (by omega)))
      have HG := Lib.hid (good_fin2 s HALL.out)
      go_wp2
      all_goals
        go_ret
        refine ⟨?_, rfl⟩
        rw [HG.out]
        first
        | rfl
        | (simp [*]; done)
        | (simp [*]; omega)
end Go.Proofs.Ytlopdbhjdijlmaa

namespace Go.Proofs.Ytlopdbhjdijlmaa
open Go.ChangeShapes Go.WideShapes Go.ChangeAt Go.RowKit
set_option linter.unusedSimpArgs false
set_option linter.unusedVariables false

/-- A text's byte, 0 behind its end. -/
def nbyte (s : ByteArray) (i : Nat) : Nat := (s.data.toList.getD i 0).toNat
theorem nbyte_lt (s : ByteArray) (i : Nat) : nbyte s i < 256 := UInt8.toNat_lt _
theorem nbyte_at (s : ByteArray) (i : Nat) (h : i < s.size) : nbyte s i = s[i].toNat := by
  have h' : i < s.data.toList.length := by simpa using h
  unfold nbyte
  rw [List.getD_eq_getElem?_getD, List.getElem?_eq_getElem h']
  rfl
theorem nbyte_out (s : ByteArray) (i : Nat) (h : s.size ≤ i) : nbyte s i = 0 := by
  have h' : s.data.toList.length ≤ i := by simpa using h
  unfold nbyte
  rw [List.getD_eq_getElem?_getD, List.getElem?_eq_none h']
  rfl

def nlist (s : ByteArray) : List Nat := [nbyte s 0, nbyte s 1, nbyte s 2, nbyte s 3, nbyte s 4, nbyte s 5, nbyte s 6, s.size]
def nword (s : ByteArray) : Nat := PackM.join (nlist s)

theorem good_size {s : ByteArray} (h : goodB s.data.toList = true) : 1 ≤ s.size ∧ s.size ≤ 7 := by
  unfold goodB at h
  simp only [Bool.and_eq_true, decide_eq_true_eq] at h
  have e : s.data.toList.length = s.size := by simp
  rw [e] at h
  exact h.1.1.2

theorem nlist_lt {s : ByteArray} (h : s.size ≤ 7) : ∀ c ∈ nlist s, c < 256 := by
  intro c hc
  simp only [nlist, List.mem_cons, List.not_mem_nil, or_false] at hc
  rcases hc with rfl | rfl | rfl | rfl | rfl | rfl | rfl | rfl
  all_goals first | exact nbyte_lt _ _ | omega

theorem nword_lt {s : ByteArray} (h : s.size ≤ 7) : nword s < 18446744073709551616 := by
  have h1 := PackM.join_lt (nlist s) (nlist_lt h)
  have e : (nlist s).length = 8 := rfl
  rw [e] at h1
  exact Nat.lt_of_lt_of_eq h1 (by decide)

/-- copy of a text that fits into a block known whole. -/
theorem wpList_copy_text {P : Program} {w : World} {ops : Array Oper} {rest : List Oper} {o : Oper} {a : Act} {Q : Exit → Act → World → Prop} (hgd : o.guard = none) (d s : Operand) (dT sT : TypeId)
    (ho : o.op = .call { callee := .builtin .copy, args := #[d, s], argTypes := #[dT, sT] }) (elem : TypeId) (hu : P.underlying dT = some (.slice elem)) (hsz : (P.info? elem).map (·.size) = some 1)
    (g dLen dCap : Nat) (t : ByteArray) (hd : a.eval d = .slice (some ⟨g, 0, none⟩) dLen dCap) (hs : a.eval s = .string t)
    (cur : Array Value) (ty : TypeId) (hg : w.heap[g]? = some (.cells cur ty (0, 0))) (hle : t.size ≤ dLen) (hfit : t.size ≤ cur.size)
    (h : wpList P ops Q rest (a.put o.dst (goInt t.size)) (w.setRow g (Lib.byteCells t.data.toList ++ cur.toList.drop t.size).toArray)) : wpList P ops Q (o :: rest) a w := by
  refine wpList_plain hgd fun K hK => ?_
  have hrun := Lib.run_copy_row_string (P := P) w dT sT o.type elem g 0 dLen dCap t cur ty hu hsz hg hle (by omega)
  simp only [List.take_zero, List.nil_append, Nat.zero_add] at hrun
  unfold Oper.wp
  simp [execOp, ho, resolve, invoke, builtin, hd, hs, hrun, Result.andThen]
  exact hK _ _ h

def zero8 : Array Value := #[.int .u8 0, .int .u8 0, .int .u8 0, .int .u8 0, .int .u8 0, .int .u8 0, .int .u8 0, .int .u8 0]

theorem text_row (s : ByteArray) (h : s.size ≤ 7) : (Lib.byteCells s.data.toList ++ zero8.toList.drop s.size).toArray =
    #[.int .u8 (nbyte s 0), .int .u8 (nbyte s 1), .int .u8 (nbyte s 2), .int .u8 (nbyte s 3), .int .u8 (nbyte s 4), .int .u8 (nbyte s 5), .int .u8 (nbyte s 6), .int .u8 0] := by
  have e : s.size = s.data.toList.length := by simp
  unfold nbyte
  rw [e] at h ⊢
  generalize s.data.toList = l at h ⊢
  match l, h with
  | [], _ => rfl
  | [_], _ => rfl
  | [_, _], _ => rfl
  | [_, _, _], _ => rfl
  | [_, _, _, _], _ => rfl
  | [_, _, _, _, _], _ => rfl
  | [_, _, _, _, _, _], _ => rfl
  | [_, _, _, _, _, _, _], _ => rfl
  | _ :: _ :: _ :: _ :: _ :: _ :: _ :: _ :: _, h => simp at h

theorem alloc_setRow (w : World) (c cs : Array Value) (t : TypeId) : (w.alloc (.cells c t)).setRow w.heap.size cs = w.alloc (.cells cs t) := by
  have : (w.heap.push (.cells c t)).modify w.heap.size (fun | .cells _ e f => .cells cs e f | o => o) = w.heap.push (.cells cs t) := by
    apply Array.ext_getElem?
    intro i
    rw [Array.getElem?_modify]
    by_cases h : w.heap.size = i
    · subst h
      simp
    · rw [if_neg h, Array.getElem?_push, Array.getElem?_push]
      rw [if_neg (fun e => h e.symm), if_neg (fun e => h e.symm)]
  simp only [World.setRow, World.alloc]
  congr 1

theorem word_no (s : ByteArray) (hs : s.size ≤ maxLen) (hg : goodB s.data.toList = false) (w : World) :
    Calls Try.prog 112 #[.string s] w fun e w' => e = .returned (.tuple #[.int .u64 0, .bool false]) ∧ w = w' := by
  have HS := Lib.hid hs
  have HG := Lib.hid hg
  clear hs hg
  go_enter Try.func112, Try.ntmps112
  go_wp2_with (go_at_call 110; refine (good_any s HS.out _).mono ?_; rintro e w' ⟨rfl, rfl⟩; rw [HG.out])
  go_ret2
  exact ⟨rfl, rfl⟩

set_option maxRecDepth 20000 in
theorem word_yes (s : ByteArray) (hg : goodB s.data.toList = true) (w : World) :
    Calls Try.prog 112 #[.string s] w fun e w' => e = .returned (.tuple #[.int .u64 (nword s : Nat), .bool true]) ∧ Below w.heap.size w w' := by
  obtain ⟨h1, h7⟩ := good_size hg
  have HG := Lib.hid hg
  have hrow := text_row s h7
  have HR := Lib.hid hrow
  have h71 : (s.size : Int) ≤ 7 := by omega
  have HZ : Hid (s.size ≤ zero8.size) := by show s.size ≤ 8; omega
  have HH : Hid ((w.alloc (.cells #[.int .u8 0, .int .u8 0, .int .u8 0, .int .u8 0, .int .u8 0, .int .u8 0, .int .u8 0, .int .u8 0] 141)).heap[w.heap.size]? = some (.cells zero8 141 (0, 0))) := heap_alloc_new w _
  clear hg hrow
  go_enter Try.func112, Try.ntmps112
  go_wp2_with (first | (go_at_call 110; refine (good_any s (by unfold maxLen; omega) _).mono ?_; rintro e w' ⟨rfl, rfl⟩; rw [HG.out]) | (with_reducible refine wpList_copy_text (o := ⟨some 10, _, _, _, _, _⟩) rfl _ _ 163 9 rfl 5 Try.underlying163 (by kernel_rfl) w.heap.size 8 8 s rfl rfl zero8 141 HH.out (by omega) HZ.out ?_; rw [alloc_setRow, HR.out]) | (go_at_call 130; refine (join_any8 _ _ _ _ _ _ _ s.size (nbyte_lt _ _) (nbyte_lt _ _) (nbyte_lt _ _) (nbyte_lt _ _) (nbyte_lt _ _) (nbyte_lt _ _) (nbyte_lt _ _) (by omega) _).mono ?_; rintro e w1 ⟨rfl, hb1⟩))
  go_ret2
  exact ⟨rfl, ((Below.refl _ _).alloc (Nat.le_refl _) _).trans (hb1.mono (by simp))⟩

theorem join_drop (s : ByteArray) (k : Nat) (h : k < 7) : PackM.join ((nlist s).drop k) = nbyte s k + 256 * PackM.join ((nlist s).drop (k + 1)) := by
  match k, h with
  | 0, _ => rfl
  | 1, _ => rfl
  | 2, _ => rfl
  | 3, _ => rfl
  | 4, _ => rfl
  | 5, _ => rfl
  | 6, _ => rfl

theorem join_drop_lt {s : ByteArray} (h : s.size ≤ 7) (k : Nat) (hk : 1 ≤ k) (hk7 : k ≤ 7) : PackM.join ((nlist s).drop k) < 72057594037927936 := by
  have h1 := PackM.join_lt ((nlist s).drop k) (fun c hc => nlist_lt h c (List.mem_of_mem_drop hc))
  have e : ((nlist s).drop k).length = 8 - k := by rw [List.length_drop]; rfl
  rw [e] at h1
  have : 256 ^ (8 - k) ≤ 256 ^ 7 := Nat.pow_le_pow_right (by decide) (by omega)
  have e2 : 256 ^ 7 = 72057594037927936 := by decide
  omega

set_option maxRecDepth 20000 in
set_option maxHeartbeats 400000 in
theorem ref_word (s : ByteArray) (h7 : s.size ≤ 7) (w : World) :
    Calls Try.prog 127 #[.string s] w fun e w' => e = .returned (.int .u64 (nword s : Nat)) ∧ w = w' := by
  go_enter Try.func127, Try.ntmps127
  go_wp2
  go_loopg [3, 4] 7 (fun g v i wr => g ≤ 7 ∧ i = .int .i64 ((g : Int) - 1) ∧ v = .int .u64 (PackM.join ((nlist s).drop g) : Nat) ∧ w = wr)
  case atStart => exact ⟨by omega, rfl, rfl, rfl⟩
  case round =>
    obtain ⟨hg, rfl, rfl, rfl⟩ := hrel
    by_cases h0 : 1 ≤ gk
    · obtain ⟨k, rfl⟩ : ∃ k, gk = k + 1 := ⟨gk - 1, by omega⟩
      have hj := join_drop s k (by omega)
      have hl := join_drop_lt h7 (k + 1) (by omega) hg
      have hb := nbyte_lt s k
      have e1 : (((k + 1 : Nat) : Int) - 1) = (k : Int) := by omega
      rw [e1]
      generalize PackM.join ((nlist s).drop (k + 1)) = y at hj hl
      have HJ := Lib.hid hj
      have hy : (y : Int) < 72057594037927936 := by omega
      clear hj hl e1
      by_cases hk : k < s.size
      · have hbv := nbyte_at s k hk
        have HB := Lib.hid hbv
        have hb' : (s[k].toNat : Int) < 256 := by rw [← hbv]; omega
        clear hbv hb
        go_wp2
        go_roundg k
        case measure => omega
        case rel => exact ⟨by omega, by go_num, by rw [HJ.out, HB.out]; go_num, rfl⟩
      · have hbv := nbyte_out s k (by omega)
        have HB := Lib.hid hbv
        clear hbv hb
        go_wp2
        go_roundg k
        case measure => omega
        case rel => exact ⟨by omega, by go_num, by rw [HJ.out, HB.out]; go_num, rfl⟩
    · obtain rfl : gk = 0 := by omega
      go_wp2
      go_ret
      exact ⟨rfl, rfl⟩
end Go.Proofs.Ytlopdbhjdijlmaa

namespace Go.Proofs.Ytlopdbhjdijlmaa
open Go.ChangeShapes Go.WideShapes Go.ChangeAt Go.RowKit
set_option linter.unusedSimpArgs false
set_option linter.unusedVariables false

/-- A text of bytes. -/
def bstr (l : List Nat) : ByteArray := ⟨(l.map UInt8.ofNat).toArray⟩
theorem bstr_size (l : List Nat) : (bstr l).size = l.length := by
  show (l.map UInt8.ofNat).toArray.size = _
  simp

theorem bstr_foldl (l : List Nat) : (l.map (fun c : Nat => (c : Int))).foldl (fun (r : ByteArray) (n : Int) => r.push (UInt8.ofNat n.toNat)) ByteArray.empty = bstr l := by
  have h : ∀ (l : List Nat) (r : ByteArray), (l.map (fun c : Nat => (c : Int))).foldl (fun (r : ByteArray) (n : Int) => r.push (UInt8.ofNat n.toNat)) r = ⟨r.data ++ (l.map UInt8.ofNat).toArray⟩ := by
    intro l
    induction l with
    | nil => intro r; simp
    | cons c l ih =>
      intro r
      simp only [List.map_cons, List.foldl_cons, ih, Int.toNat_natCast]
      simp [ByteArray.push]
  rw [h]
  simp [bstr]

/-- string(b[:n]): the bytes that lie there. -/
theorem wpList_bytes_text {P : Program} {w : World} {ops : Array Oper} {rest : List Oper} {o : Oper} {a : Act} {Q : Exit → Act → World → Prop} (hgd : o.guard = none) (x : Operand) (src dst e : TypeId)
    (ho : o.op = .convert src dst x) (hs : P.underlying src = some (.slice e)) (he : P.underlying e = some (.int .u8)) (hd : P.underlying dst = some .string)
    (ad : Addr) (len cap : Nat) (hx : a.eval x = .slice (some ad) len cap) (l : List Nat) (hl : l.length = len) (hc : ∀ j (h : j < l.length), w.cell? (ad.add j) = some (.int .u8 (l[j] : Nat)))
    (h : wpList P ops Q rest (a.put o.dst (.string (bstr l))) w) : wpList P ops Q (o :: rest) a w := by
  refine wpList_plain hgd fun K hK => ?_
  have hlc : (loadCells ad (l.map (fun c : Nat => Value.int .u8 (c : Int))).length).run P w = .ok (l.map (fun c : Nat => Value.int .u8 (c : Int))).toArray w :=
    run_loadCells_list (P := P) w ad _ (fun j v hv => by
      have hj : j < l.length := by
        have := (List.getElem?_eq_some_iff.1 hv).1
        simpa using this
      have e2 : (l.map (fun c : Nat => Value.int .u8 (c : Int)))[j]? = some (.int .u8 (l[j] : Nat)) := by simp [hj]
      rw [e2] at hv
      rw [hc j hj]
      exact hv)
  have hlc2 : (loadCells ad len).run P w = .ok ((l.map (fun c : Nat => (c : Int))).map (Value.int .u8)).toArray w := by
    rw [List.length_map, hl] at hlc
    rw [hlc]
    simp [List.map_map, Function.comp_def]
  have hrun := (run_convert_bytes_string (P := P) w src dst e (some ad) len cap hs he hd).trans (run_bytesToString w ad len cap (l.map (fun c : Nat => (c : Int))) hlc2)
  rw [bstr_foldl] at hrun
  unfold Oper.wp
  simp [execOp, ho, hx, hrun, Result.andThen]
  exact hK _ _ h

theorem bytesTake_cell (x n : Nat) (hn : n ≤ 7) (j : Nat) (h : j < ((PackM.bytes x).take n).length) (w : World) (g : Nat)
    (hg : w.heap[g]? = some (.cells #[Value.int IntKind.u8 (PackM.byteAt x 0 : Nat), Value.int IntKind.u8 (PackM.byteAt x 1 : Nat), Value.int IntKind.u8 (PackM.byteAt x 2 : Nat), Value.int IntKind.u8 (PackM.byteAt x 3 : Nat), Value.int IntKind.u8 (PackM.byteAt x 4 : Nat), Value.int IntKind.u8 (PackM.byteAt x 5 : Nat), Value.int IntKind.u8 (PackM.byteAt x 6 : Nat), Value.int IntKind.u8 (PackM.byteAt x 7 : Nat)] 141 (0, 0))) :
    w.cell? ((⟨g, 0, none⟩ : Addr).add j) = some (.int .u8 (((PackM.bytes x).take n)[j] : Nat)) := by
  have hadd : (⟨g, 0, none⟩ : Addr).add j = ⟨g, j, none⟩ := by unfold Addr.add; split <;> simp_all
  rw [hadd, cell_of_row _ _ _ _ _ _ hg]
  have hj : j < 7 := by simp at h; omega
  rw [List.getElem_take]
  match j, hj with
  | 0, _ => rfl
  | 1, _ => rfl
  | 2, _ => rfl
  | 3, _ => rfl
  | 4, _ => rfl
  | 5, _ => rfl
  | 6, _ => rfl

/-- The text that a word's bytes say. -/
def wtext (x : Nat) : ByteArray := bstr ((PackM.bytes x).take (PackM.byteAt x 7))

/-- Is a word a name's? -/
def isName (x : Nat) : Bool := decide (PackM.byteAt x 7 ≤ 7) && goodB (wtext x).data.toList && decide (nword (wtext x) = x)

/-- What Name answers. -/
def nameRes (x : Nat) : Value := .tuple #[.string (if isName x = true then wtext x else ⟨#[]⟩), .bool (isName x)]
theorem nameRes_no {x : Nat} (h : isName x = false) : nameRes x = .tuple #[.string ⟨#[]⟩, .bool false] := by simp [nameRes, h]
theorem nameRes_yes {x : Nat} (h : isName x = true) : nameRes x = .tuple #[.string (wtext x), .bool true] := by simp [nameRes, h]

set_option maxRecDepth 20000 in
set_option maxHeartbeats 800000 in
theorem name_any (x : Nat) (hx : x < 18446744073709551616) (w : World) :
    Calls Try.prog 120 #[.int .u64 x] w fun e w' => e = .returned (nameRes x) ∧ Below w.heap.size w w' := by
  have hn : ∀ j : Nat, PackM.byteAt x j < 256 := PackM.byteAt_lt x
  have hb7 : ((PackM.byteAt x 7 : Nat) : Int) < 256 := by have := hn 7; omega
  clear hn
  by_cases h7 : PackM.byteAt x 7 ≤ 7
  · have hlen : ((PackM.bytes x).take (PackM.byteAt x 7)).length = PackM.byteAt x 7 := by rw [List.length_take, PackM.bytes_length]; omega
    have HL := Lib.hid hlen
    clear hlen
    have hsz : (wtext x).size ≤ maxLen := by
      unfold wtext
      rw [bstr_size, HL.out]
      unfold maxLen
      omega
    have HSZ := Lib.hid hsz
    clear hsz
    have h78 : ((PackM.byteAt x 7 : Nat) : Int) ≤ 8 := by omega
    have h77 : ((PackM.byteAt x 7 : Nat) : Int) ≤ 7 := by omega
    have h70 : (0 : Int) ≤ ((PackM.byteAt x 7 : Nat) : Int) := by omega
    have HCELL : Hid (∀ (w : World) (g : Nat), w.heap[g]? = some (.cells #[Value.int IntKind.u8 (PackM.byteAt x 0 : Nat), Value.int IntKind.u8 (PackM.byteAt x 1 : Nat), Value.int IntKind.u8 (PackM.byteAt x 2 : Nat), Value.int IntKind.u8 (PackM.byteAt x 3 : Nat), Value.int IntKind.u8 (PackM.byteAt x 4 : Nat), Value.int IntKind.u8 (PackM.byteAt x 5 : Nat), Value.int IntKind.u8 (PackM.byteAt x 6 : Nat), Value.int IntKind.u8 (PackM.byteAt x 7 : Nat)] 141 (0, 0)) → ∀ j (h : j < ((PackM.bytes x).take (PackM.byteAt x 7)).length), w.cell? ((⟨g, 0, none⟩ : Addr).add j) = some (.int .u8 (((PackM.bytes x).take (PackM.byteAt x 7))[j] : Nat))) :=
      fun w g hg j h => bytesTake_cell x _ h7 j h w g hg
    cases hg : goodB (wtext x).data.toList with
    | false =>
      have HI : Hid (isName x = false) := by simp [Hid, isName, hg]
      have HG := Lib.hid hg
      clear hg
      go_enter Try.func120, Try.ntmps120
      go_wp2_with (first | (go_at_call 104; refine (bytes_any x hx _).mono ?_; rintro e w1 ⟨rfl, hb1⟩) | (with_reducible refine wpList_bytes_text (o := ⟨some 18, _, _, _, _, _⟩) rfl _ 163 9 5 rfl Try.underlying163 Try.underlying5 Try.underlying9 ⟨w1.heap.size, 0, none⟩ _ _ rfl ((PackM.bytes x).take (PackM.byteAt x 7)) HL.out (HCELL.out _ _ (heap_alloc_new _ _)) ?_) | (go_at_call 112; refine (word_no (wtext x) HSZ.out HG.out _).mono ?_; rintro e w' ⟨rfl, rfl⟩))
      go_ret2
      rw [nameRes_no HI.out]
      exact ⟨rfl, hb1.alloc hb1.size _⟩
    | true =>
      have HG := Lib.hid hg
      have hlt := nword_lt (good_size hg).2
      by_cases he : nword (wtext x) = x
      · have HI : Hid (isName x = true) := by simp [Hid, isName, hg, he, h7]
        have HE := Lib.hid he
        have hxx : ((x : Int) != (x : Int)) = false := by simp
        clear hg he hlt
        go_enter Try.func120, Try.ntmps120
        go_wp2_with (first | (go_at_call 104; refine (bytes_any x hx _).mono ?_; rintro e w1 ⟨rfl, hb1⟩) | (with_reducible refine wpList_bytes_text (o := ⟨some 18, _, _, _, _, _⟩) rfl _ 163 9 5 rfl Try.underlying163 Try.underlying5 Try.underlying9 ⟨w1.heap.size, 0, none⟩ _ _ rfl ((PackM.bytes x).take (PackM.byteAt x 7)) HL.out (HCELL.out _ _ (heap_alloc_new _ _)) ?_) | (go_at_call 112; refine (word_yes (wtext x) HG.out _).mono ?_; rintro e w2 ⟨rfl, hb2⟩; rw [HE.out]))
        go_ret2
        rw [nameRes_yes HI.out]
        exact ⟨rfl, (hb1.alloc hb1.size _).trans (hb2.mono (by have := hb1.size; simp; omega))⟩
      · have HI : Hid (isName x = false) := by simp [Hid, isName, he]
        have hne : (((nword (wtext x) : Nat) : Int) != (x : Int)) = true := by
          rw [bne_iff_ne]; omega
        have HW := Lib.hid (fun (w : World) => word_yes (wtext x) hg w)
        generalize nword (wtext x) = y at hne HW hlt
        clear hg he
        go_enter Try.func120, Try.ntmps120
        go_wp2_with (first | (go_at_call 104; refine (bytes_any x hx _).mono ?_; rintro e w1 ⟨rfl, hb1⟩) | (with_reducible refine wpList_bytes_text (o := ⟨some 18, _, _, _, _, _⟩) rfl _ 163 9 5 rfl Try.underlying163 Try.underlying5 Try.underlying9 ⟨w1.heap.size, 0, none⟩ _ _ rfl ((PackM.bytes x).take (PackM.byteAt x 7)) HL.out (HCELL.out _ _ (heap_alloc_new _ _)) ?_) | (go_at_call 112; refine (HW.out _).mono ?_; rintro e w2 ⟨rfl, hb2⟩))
        go_ret2
        rw [nameRes_no HI.out]
        exact ⟨rfl, (hb1.alloc hb1.size _).trans (hb2.mono (by have := hb1.size; simp; omega))⟩
  · have HI : Hid (isName x = false) := by simp [Hid, isName, h7]
    have h78 : 7 < ((PackM.byteAt x 7 : Nat) : Int) := by omega
    go_enter Try.func120, Try.ntmps120
    go_wp2_with (go_at_call 104; refine (bytes_any x hx _).mono ?_; rintro e w1 ⟨rfl, hb1⟩)
    go_ret2
    rw [nameRes_no HI.out]
    exact ⟨rfl, hb1.alloc hb1.size _⟩
end Go.Proofs.Ytlopdbhjdijlmaa

namespace Go.Proofs.Ytlopdbhjdijlmaa
open Go.ChangeShapes Go.WideShapes Go.ChangeAt Go.RowKit
set_option linter.unusedSimpArgs false
set_option linter.unusedVariables false

def natInts (l : List Nat) : List Int := l.map (fun n : Nat => (n : Int))
theorem natInts_length (l : List Nat) : (natInts l).length = l.length := by simp [natInts]

/-- Where the words lie, if there are any. -/
theorem HoldsU.open {w : World} {v : Value} {xs : List Int} (h : HoldsU w v xs) (hn : 0 < xs.length) :
    ∃ b o c, v = .slice (some ⟨b, o, none⟩) xs.length c ∧ b < w.heap.size ∧ xs.length ≤ c ∧ c ≤ maxLen ∧ ∀ j (hj : j < xs.length), w.cell? ⟨b, o + j, none⟩ = some (.int .u64 xs[j]) := by
  obtain ⟨ao, c, rfl, h1, h2, h3, h4⟩ := h
  cases ao with
  | none => have := h1 rfl; omega
  | some ad =>
    have hc : ∀ j (hj : j < xs.length), w.cell? (ad.add j) = some (.int .u64 xs[j]) := fun j hj => h4 ad rfl j _ (by simp [u64s, hj])
    obtain ⟨b, o, spot⟩ := ad
    have hspot : spot = none := by simpa [Addr.add] using World.cell?_spot (hc 0 hn)
    subst hspot
    refine ⟨b, o, c, rfl, ?_, h2, h3, fun j hj => ?_⟩
    · have := World.block_lt_of_cell? w _ (hc 0 hn)
      simpa [Addr.add] using this
    · rw [← hc j hj, Addr.add_lit]

theorem byte_index (x j : Nat) (hj : j < 8) (w : World) : (Instr.index 141 (.agg #[Value.int IntKind.u8 (PackM.byteAt x 0 : Nat), Value.int IntKind.u8 (PackM.byteAt x 1 : Nat), Value.int IntKind.u8 (PackM.byteAt x 2 : Nat), Value.int IntKind.u8 (PackM.byteAt x 3 : Nat), Value.int IntKind.u8 (PackM.byteAt x 4 : Nat), Value.int IntKind.u8 (PackM.byteAt x 5 : Nat), Value.int IntKind.u8 (PackM.byteAt x 6 : Nat), Value.int IntKind.u8 (PackM.byteAt x 7 : Nat)]) (.int .i64 j)).run Try.prog w = .ok (.int .u8 (PackM.byteAt x j : Nat)) w := by
  refine run_index_arr Try.underlying141 Try.underlying5 rfl (by kernel_rfl) _ _ j _ hj ?_ w
  match j, hj with
  | 0, _ => rfl
  | 1, _ => rfl
  | 2, _ => rfl
  | 3, _ => rfl
  | 4, _ => rfl
  | 5, _ => rfl
  | 6, _ => rfl
  | 7, _ => rfl

theorem xor_step (a c : Nat) (ha : a < 4294967296) (hc : c < 256) : bits .xor .u32 (a : Int) (c : Int) * 16777619 % 4294967296 = (PackM.step a c : Nat) := by
  rw [u32_xor_nat a c ha (by omega), PackM.step_eq]
  omega

set_option maxRecDepth 20000 in
set_option maxHeartbeats 800000 in
theorem sum_any (l : List Nat) (hl : ∀ x ∈ l, x < 18446744073709551616) {v : Value} {w : World} (hv : HoldsU w v (natInts l)) :
    Calls Try.prog 133 #[v] w fun e w' => e = .returned (.int .u32 (PackM.sum l : Nat)) ∧ Below w.heap.size w w' := by
  have HLT := Lib.hid hl
  have HV := Lib.hid hv
  have HEQ := Lib.hid (PackM.sumTo_eq l)
  have hlen := natInts_length l
  obtain ⟨ao, c, rfl, hao, hlc, hcm, hcells⟩ := hv
  rw [hlen] at hlc ⊢
  unfold maxLen at hcm
  clear hcells hao hl
  have HLEN := Lib.hid hlen
  clear hlen
  go_enter Try.func133, Try.ntmps133
  go_wp2
  go_loopg [3, 10] l.length (fun g h i wr => ∃ k : Nat, k + g = l.length ∧ i = .int .i64 k ∧ h = .int .u32 (PackM.sumTo l k : Nat) ∧ Below w.heap.size w wr)
  case atStart => exact ⟨0, by omega, rfl, rfl, Below.refl _ _⟩
  case round =>
    obtain ⟨k, hk, rfl, rfl, hbel⟩ := hrel
    by_cases hlt : k < l.length
    · obtain ⟨b, o, c', e, hb, _, _, hc⟩ := HV.out.open (by rw [HLEN.out]; omega)
      simp only [Value.slice.injEq] at e
      obtain ⟨rfl, _, rfl⟩ := e
      have hck : wr.cell? ⟨b, o + k, none⟩ = some (.int .u64 ((l.getD k 0 : Nat) : Int)) := by
        rw [hbel.cell (p := ⟨b, o + k, none⟩) hb, hc k (by rw [HLEN.out]; omega)]
        simp [natInts, hlt]
      have hxl : l.getD k 0 < 18446744073709551616 := HLT.out _ (by simp [hlt])
      have HNEXT : Hid (PackM.sumTo l (k + 1) = PackM.sumBTo (PackM.sumTo l k) (l.getD k 0) 8) := rfl
      have hs := PackM.sumTo_lt l k
      have hsz := hbel.size
      generalize l.getD k 0 = x at hck hxl HNEXT
      generalize PackM.sumTo l k = h at hs HNEXT
      clear hc
      go_wp2_with (go_at_call 104; refine (bytes_any x hxl _).mono ?_; rintro e w1 ⟨rfl, hb1⟩)
      go_loopg [3, 16] 8 (fun g2 h2 i wi => ∃ j : Nat, j + g2 = 8 ∧ i = .int .i64 j ∧ h2 = .int .u32 (PackM.sumBTo h x j : Nat) ∧ w1 = wi)
      case atStart => exact ⟨0, by omega, rfl, rfl, rfl⟩
      case round =>
        obtain ⟨j, hj, rfl, rfl, rfl⟩ := hrel
        by_cases hj8 : j < 8
        · have hix := fun wx => byte_index x j hj8 wx
          have hh := PackM.sumBTo_lt h x j hs
          have hc := PackM.byteAt_lt x j
          have hst := xor_step _ _ hh hc
          have HST : Hid (PackM.sumBTo h x (j + 1) = PackM.step (PackM.sumBTo h x j) (PackM.byteAt x j)) := rfl
          generalize PackM.sumBTo h x j = hj at hh hst HST
          generalize PackM.byteAt x j = cj at hix hc hst HST
          go_wp2
          go_roundg (gk - 1)
          case measure => omega
          case rel => exact ⟨j + 1, by omega, by go_num, by rw [HST.out]; exact congrArg _ hst, rfl⟩
        · obtain rfl : j = 8 := by omega
          go_wp2
          go_roundg (l.length - (k + 1))
          case measure => omega
          case rel => exact ⟨k + 1, by omega, by go_num, by rw [HNEXT.out], hbel.trans (hb1.mono hsz)⟩
    · obtain rfl : gk = 0 := by omega
      obtain rfl : k = l.length := by omega
      go_wp2
      go_ret
      rw [HEQ.out]
      exact ⟨rfl, hbel⟩

theorem ref_step (h x : Nat) (hh : h < 4294967296) : bits .xor .u64 (h : Int) ((x : Int) % 256) * 16777619 % 4294967296 = (PackM.step h (x % 256) : Nat) := by
  have e : ((x : Int) % 256) = ((x % 256 : Nat) : Int) := by omega
  rw [e, u64_xor_nat h (x % 256) (by omega) (by omega), PackM.step_eq]
  omega

theorem ref_bound (h x : Nat) (hh : h < 4294967296) : 0 ≤ bits .xor .u64 (h : Int) ((x : Int) % 256) ∧ bits .xor .u64 (h : Int) ((x : Int) % 256) < 4294967296 := by
  have e : ((x : Int) % 256) = ((x % 256 : Nat) : Int) := by omega
  rw [e, u64_xor_nat h (x % 256) (by omega) (by omega)]
  have : h ^^^ (x % 256) < 4294967296 := Nat.xor_lt_two_pow (n := 32) hh (by omega)
  omega

theorem ref_step' (h x : Nat) (hh : h < 4294967296) : (IntKind.u64.wrap (bits .xor .u64 (h : Int) ((x : Int) % 256) * 16777619)).tmod 4294967296 = (PackM.step h (x % 256) : Nat) := by
  obtain ⟨h0, h1⟩ := ref_bound h x hh
  have e := ref_step h x hh
  generalize bits .xor .u64 (h : Int) ((x : Int) % 256) = B at h0 h1 e
  rw [IntKind.wrap_u64, Int.emod_eq_of_lt (by omega) (by omega), Int.tmod_eq_emod_of_nonneg (by omega)]
  exact e

theorem div_wrap (y : Nat) (hy : y < 18446744073709551616) : IntKind.u64.wrap ((y : Int) / 256) = ((y / 256 : Nat) : Int) := by
  rw [IntKind.wrap_u64, Int.emod_eq_of_lt (by omega) (by omega)]
  omega

set_option maxRecDepth 20000 in
set_option maxHeartbeats 800000 in
theorem ref_sum (l : List Nat) (hl : ∀ x ∈ l, x < 18446744073709551616) {v : Value} {w : World} (hv : HoldsU w v (natInts l)) :
    Calls Try.prog 126 #[v] w fun e w' => e = .returned (.int .u32 (PackM.sum l : Nat)) ∧ w = w' := by
  have HLT := Lib.hid hl
  have HV := Lib.hid hv
  have HEQ := Lib.hid (PackM.sumTo_eq l)
  have hlen := natInts_length l
  obtain ⟨ao, c, rfl, hao, hlc, hcm, hcells⟩ := hv
  rw [hlen] at hlc ⊢
  unfold maxLen at hcm
  clear hcells hao hl
  have HLEN := Lib.hid hlen
  clear hlen
  go_enter Try.func126, Try.ntmps126
  go_wp2
  go_loopg [3, 4] l.length (fun g h i wr => ∃ k : Nat, k + g = l.length ∧ i = .int .i64 k ∧ h = .int .u64 (PackM.sumTo l k : Nat) ∧ w = wr)
  case atStart => exact ⟨0, by omega, rfl, rfl, rfl⟩
  case round =>
    obtain ⟨k, hk, rfl, rfl, rfl⟩ := hrel
    by_cases hlt : k < l.length
    · obtain ⟨b, o, c', e, hb, _, _, hc⟩ := HV.out.open (by rw [HLEN.out]; omega)
      simp only [Value.slice.injEq] at e
      obtain ⟨rfl, _, rfl⟩ := e
      have hck : w.cell? ⟨b, o + k, none⟩ = some (.int .u64 ((l.getD k 0 : Nat) : Int)) := by
        rw [hc k (by rw [HLEN.out]; omega)]
        simp [natInts, hlt]
      have hxl : l.getD k 0 < 18446744073709551616 := HLT.out _ (by simp [hlt])
      have HNEXT : Hid (PackM.sumTo l (k + 1) = PackM.sumBTo (PackM.sumTo l k) (l.getD k 0) 8) := rfl
      have hs := PackM.sumTo_lt l k
      generalize l.getD k 0 = x at hck hxl HNEXT
      generalize PackM.sumTo l k = h at hs HNEXT
      clear hc
      have HXL := Lib.hid hxl
      clear hxl
      go_wp2
      go_loopg [3, 5, 6] 8 (fun g2 h2 y i wi => ∃ j : Nat, j + g2 = 8 ∧ i = .int .i64 j ∧ h2 = .int .u64 (PackM.sumBTo h x j : Nat) ∧ y = .int .u64 (x / 256 ^ j : Nat) ∧ w = wi)
      case atStart => exact ⟨0, by omega, rfl, rfl, by simp, rfl⟩
      case round =>
        obtain ⟨j, hj, rfl, rfl, rfl, rfl⟩ := hrel
        by_cases hj8 : j < 8
        · have hh := PackM.sumBTo_lt h x j hs
          have HST : Hid (PackM.sumBTo h x (j + 1) = PackM.step (PackM.sumBTo h x j) (x / 256 ^ j % 256)) := rfl
          have hyl : x / 256 ^ j < 18446744073709551616 := Nat.lt_of_le_of_lt (Nat.div_le_self _ _) HXL.out
          have HD : Hid (x / 256 ^ (j + 1) = x / 256 ^ j / 256) := by simp only [Hid, Nat.pow_succ, Nat.div_div_eq_div_mul]
          generalize PackM.sumBTo h x j = hj at hh HST
          generalize x / 256 ^ j = y at hyl HST HD
          have HSTT := Lib.hid (ref_step' hj y hh)
          have HYL := Lib.hid hyl
          clear hyl
          go_wp2
          go_roundg (gk - 1)
          case measure => omega
          case rel => exact ⟨j + 1, by omega, by go_num, by rw [HST.out]; exact congrArg _ HSTT.out, by rw [HD.out]; exact congrArg _ (div_wrap y HYL.out), rfl⟩
        · obtain rfl : j = 8 := by omega
          go_wp2
          go_roundg (l.length - (k + 1))
          case measure => omega
          case rel => exact ⟨k + 1, by omega, by go_num, by rw [HNEXT.out], rfl⟩
    · obtain rfl : gk = 0 := by omega
      obtain rfl : k = l.length := by omega
      have hsl := PackM.sumTo_lt l l.length
      have hsl2 : ((PackM.sumTo l l.length : Nat) : Int) < 4294967296 := by omega
      go_wp2
      go_ret
      rw [HEQ.out]
      exact ⟨rfl, rfl⟩

theorem holdsU_lit (w : World) (xs : List Int) (h : xs.length ≤ maxLen) : HoldsU (w.alloc (.cells (u64s xs).toArray 37)) (.slice (some ⟨w.heap.size, 0, none⟩) xs.length xs.length) xs :=
  ⟨_, _, rfl, (by intro h; cases h), Nat.le_refl _, h, fun ad ha j u hu => by
    simp only [Option.some.injEq] at ha
    subst ha
    exact cells_new w (u64s xs) _ j u hu⟩

theorem lit_one (w : World) (x : Nat) : HoldsU (w.alloc (.cells #[.int .u64 (x : Nat)] 37)) (.slice (some ⟨w.heap.size, 0, none⟩) 1 1) (natInts [x]) := by
  have h : (natInts [x]).length ≤ maxLen := by
    rw [natInts_length]
    unfold maxLen
    simp only [List.length_cons, List.length_nil]
    omega
  exact holdsU_lit w (natInts [x]) h

theorem bucket_no (s : ByteArray) (hs : s.size ≤ maxLen) (hg : goodB s.data.toList = false) (w : World) :
    Calls Try.prog 131 #[.string s] w fun e w' => e = .returned (.int .i64 0) ∧ w = w' := by
  have HS := Lib.hid hs
  have HG := Lib.hid hg
  clear hs hg
  go_enter Try.func131, Try.ntmps131
  go_wp2_with (go_at_call 112; refine (word_no s HS.out HG.out _).mono ?_; rintro e w' ⟨rfl, rfl⟩)
  go_ret
  exact ⟨rfl, rfl⟩

noncomputable def bucketOf (s : ByteArray) : Nat := PackM.sum [nword s] % 4
theorem bucketOf_lt (s : ByteArray) : bucketOf s < 4 := Nat.mod_lt _ (by decide)

theorem bucket_yes (s : ByteArray) (hg : goodB s.data.toList = true) (w : World) :
    Calls Try.prog 131 #[.string s] w fun e w' => e = .returned (.int .i64 (bucketOf s : Nat)) ∧ Below w.heap.size w w' := by
  have hlt := nword_lt (good_size hg).2
  have HW := Lib.hid (fun (w : World) => word_yes s hg w)
  have HB : Hid (bucketOf s = PackM.sum [nword s] % 4) := rfl
  have HSUM : Hid (∀ w : World, Calls Try.prog 133 #[.slice (some ⟨w.heap.size, 0, none⟩) 1 1] (w.alloc (.cells #[.int .u64 (nword s : Nat)] 37)) fun e w' => e = .returned (.int .u32 (PackM.sum [nword s] : Nat)) ∧ Below (w.heap.size + 1) (w.alloc (.cells #[.int .u64 (nword s : Nat)] 37)) w') := by
    intro w
    have h := sum_any [nword s] (by simpa using hlt) (lit_one w (nword s))
    simpa using h
  have hsl := PackM.sum_lt [nword s]
  generalize hS : PackM.sum [nword s] = S at hsl HSUM HB
  generalize nword s = x at HW HSUM hlt
  clear hlt hS
  have hs2 : (S : Int) < 4294967296 := by omega
  go_enter Try.func131, Try.ntmps131
  go_wp2_with (first | (go_at_call 112; refine (HW.out _).mono ?_; rintro e w1 ⟨rfl, hb1⟩) | (go_at_call 133; refine (HSUM.out _).mono ?_; rintro e w2 ⟨rfl, hb2⟩))
  go_ret
  rw [HB.out]
  exact ⟨by simp, (hb1.alloc hb1.size _).trans (hb2.mono (by have := hb1.size; omega))⟩
end Go.Proofs.Ytlopdbhjdijlmaa

namespace Go.Proofs.Ytlopdbhjdijlmaa
set_option linter.unusedSimpArgs false
set_option linter.unusedVariables false

theorem bytes_join (l : List Nat) (hl : l.length = 8) (h : ∀ c ∈ l, c < 256) : PackM.bytes (PackM.join l) = l := by
  simp only [PackM.bytes, PackM.byteAt_join l _ h]
  match l, hl with
  | [a, b, c, d, e, f, g, k], _ => rfl

theorem bytes_nword {s : ByteArray} (h : s.size ≤ 7) : PackM.bytes (nword s) = nlist s := bytes_join _ rfl (nlist_lt h)

theorem byte7_nword {s : ByteArray} (h : s.size ≤ 7) : PackM.byteAt (nword s) 7 = s.size := by
  unfold nword
  rw [PackM.byteAt_join _ _ (nlist_lt h)]
  rfl

theorem ofNat_nbyte (s : ByteArray) (i : Nat) (h : i < s.data.toList.length) : UInt8.ofNat (nbyte s i) = s.data.toList[i] := by
  unfold nbyte
  rw [List.getD_eq_getElem?_getD, List.getElem?_eq_getElem h]
  simp

theorem wtext_nword {s : ByteArray} (h : s.size ≤ 7) : wtext (nword s) = s := by
  unfold wtext
  rw [bytes_nword h, byte7_nword h]
  have e : ((nlist s).take s.size).map UInt8.ofNat = s.data.toList := by
    apply List.ext_getElem
    · simp [nlist]; omega
    · intro i h1 h2
      have hi : i < s.size := by simpa using h2
      rw [← ofNat_nbyte s i h2, List.getElem_map, List.getElem_take]
      congr 1
      have hi7 : i < 7 := by omega
      match i, hi7 with
      | 0, _ => rfl
      | 1, _ => rfl
      | 2, _ => rfl
      | 3, _ => rfl
      | 4, _ => rfl
      | 5, _ => rfl
      | 6, _ => rfl
  unfold bstr
  rw [e]

theorem isName_nword {s : ByteArray} (hg : goodB s.data.toList = true) : isName (nword s) = true := by
  have h := (good_size hg).2
  unfold isName
  rw [wtext_nword h, hg, byte7_nword h]
  simp [h]

end Go.Proofs.Ytlopdbhjdijlmaa
