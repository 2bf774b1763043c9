/-
  The runs of a file's blocks, as plain lists: what the program's loop gathers is what the reference's two loops gather. No condition.
-/
namespace Go.Proofs.Ytcbcemeagiociaa.RunsM

def enc (k : Nat) (b : Int) : Int := k * 4294967296 + b * 256 + 1

/-- One more block in the run that was laid last. -/
def bump : List Int → List Int
  | [] => []
  | [x] => [x + 1]
  | x :: y :: l => x :: bump (y :: l)

theorem bump_snoc (l : List Int) (x : Int) : bump (l ++ [x]) = l ++ [x + 1] := by
  induction l with
  | nil => rfl
  | cons a l ih => cases l with
    | nil => rfl
    | cons b l => show a :: bump (b :: l ++ [x]) = _; rw [ih]; rfl

theorem length_bump : ∀ l : List Int, (bump l).length = l.length
  | [] => rfl
  | [_] => rfl
  | _ :: y :: l => by simp only [bump, List.length_cons, length_bump (y :: l)]

def step (s : List Int × Int) (k : Nat) (b : Int) : List Int × Int :=
  if b < 1 ∨ 256 ≤ b then (s.1, 0) else if 0 < s.2 ∧ b = s.2 + 1 then (bump s.1, b) else (s.1 ++ [enc k b], b)

def upto (l : List Int) : Nat → List Int × Int
  | 0 => ([], 0)
  | k + 1 => step (upto l k) k (l.getD k 0)

def runs (l : List Int) : List Int := (upto l 13).1

/-- What holds of the loop's state. -/
structure Fit (k : Nat) (s : List Int × Int) : Prop where
  len : s.1.length ≤ k
  lo : 0 ≤ s.2
  hi : s.2 ≤ 255
  some : 0 < s.2 → ∃ xs x, s.1 = xs ++ [x]
  each : ∀ x ∈ s.1, 0 ≤ x ∧ x ≤ k * 4294967296 + 65536 + k

theorem fit_upto (l : List Int) (k : Nat) : Fit k (upto l k) := by
  induction k with
  | zero => exact ⟨by simp [upto], by simp [upto], by simp [upto], by simp [upto], by simp [upto]⟩
  | succ k ih =>
    obtain ⟨h1, h2, h3, h4, h5⟩ := ih
    simp only [upto]
    generalize upto l k = s at *
    generalize l.getD k 0 = b at *
    unfold step
    split
    · exact ⟨by simp only; omega, by simp, by simp, by simp, fun x hx => by have := h5 x hx; omega⟩
    · split
      · rename_i hb hc
        obtain ⟨xs, x, hx⟩ := h4 hc.1
        rw [hx] at h1 h5 ⊢
        refine ⟨by simp only [bump_snoc]; simp at h1 ⊢; omega, by simp only; omega, by simp only; omega, fun _ => ⟨xs, x + 1, by simp only [bump_snoc]⟩, ?_⟩
        simp only [bump_snoc]
        intro y hy
        rcases List.mem_append.1 hy with hy | hy
        · have := h5 y (by simp [hy]); omega
        · simp at hy; subst hy; have := h5 x (by simp); omega
      · refine ⟨by simp; omega, by simp only; omega, by simp only; omega, fun _ => ⟨_, _, rfl⟩, ?_⟩
        intro y hy
        rcases List.mem_append.1 hy with hy | hy
        · have := h5 y hy; omega
        · simp at hy; subst hy; unfold enc; omega

/-- How many blocks go on behind one another. -/
def cont : Int → List Int → Nat
  | _, [] => 0
  | b, x :: l => if x = b + 1 ∧ x < 256 then cont x l + 1 else 0

/-- The reference, block by block; 'p': the block ahead. -/
def ref : Nat → Int → List Int → List Int
  | _, _, [] => []
  | k, p, x :: l => (if x < 1 ∨ 255 < x ∨ (0 < p ∧ p = x - 1) then [] else [(k : Int) * 4294967296 + x * 256 + (1 + cont x l)]) ++ ref (k + 1) x l

def go : Nat → List Int × Int → List Int → List Int × Int
  | _, s, [] => s
  | k, s, x :: l => go (k + 1) (step s k x) l

theorem go_ref (l : List Int) : ∀ (k : Nat) (out : List Int) (p q : Int),
    ((q = 0 ∧ (p ≤ 0 ∨ 255 < p)) → (go k (out, q) l).1 = out ++ ref k p l) ∧
    (∀ x : Int, 1 ≤ p → p ≤ 255 → (go k (out ++ [x], p) l).1 = out ++ [x + cont p l] ++ ref k p l) := by
  induction l with
  | nil => intro k out p q; exact ⟨fun _ => by simp [go, ref], fun x _ _ => by simp [go, ref, cont]⟩
  | cons b l ih =>
    intro k out p q
    refine ⟨fun ⟨hq, hp⟩ => ?_, fun x h1 h2 => ?_⟩
    · subst hq
      simp only [go, ref, step]
      by_cases hb : b < 1 ∨ 256 ≤ b
      · rw [if_pos hb, if_pos (by omega), (ih (k + 1) out b 0).1 ⟨rfl, by omega⟩]
        rfl
      · rw [if_neg hb, if_neg (by omega), if_neg (by omega), (ih (k + 1) out b 0).2 _ (by omega) (by omega), List.append_assoc]
        congr 3
        unfold enc; omega
    · simp only [go, ref, step, cont]
      by_cases hb : b < 1 ∨ 256 ≤ b
      · have e2 : ¬ (b = p + 1 ∧ b < 256 ∧ 0 < b) := by omega
        by_cases e : b = p + 1 ∧ b < 256
        · omega
        · have e3 : b < 1 ∨ 255 < b ∨ (0 < p ∧ p = b - 1) := by omega
          rw [if_pos hb, if_neg e, if_pos e3, (ih (k + 1) (out ++ [x]) b 0).1 ⟨rfl, by omega⟩]
          simp
      · rw [if_neg hb]
        by_cases hc : b = p + 1
        · have e1 : 0 < p ∧ b = p + 1 := ⟨by omega, hc⟩
          have e2 : b = p + 1 ∧ b < 256 := ⟨hc, by omega⟩
          have e3 : b < 1 ∨ 255 < b ∨ (0 < p ∧ p = b - 1) := by omega
          rw [if_pos e1, if_pos e2, if_pos e3, bump_snoc, (ih (k + 1) out b 0).2 _ (by omega) (by omega)]
          simp only [List.nil_append]
          congr 3
          omega
        · have e1 : ¬ (0 < p ∧ b = p + 1) := by omega
          have e2 : ¬ (b = p + 1 ∧ b < 256) := by omega
          have e3 : ¬ (b < 1 ∨ 255 < b ∨ (0 < p ∧ p = b - 1)) := by omega
          rw [if_neg e1, if_neg e2, if_neg e3, (ih (k + 1) (out ++ [x]) b 0).2 _ (by omega) (by omega)]
          have e4 : enc k b + (cont b l : Int) = (k : Int) * 4294967296 + b * 256 + (1 + cont b l) := by unfold enc; omega
          rw [e4]
          simp

theorem go_upto (l : List Int) : ∀ (k : Nat), k ≤ l.length → go k (upto l k) (l.drop k) = upto l l.length := by
  intro k hk
  obtain ⟨d, hd⟩ : ∃ d, d = l.length - k := ⟨_, rfl⟩
  induction d generalizing k with
  | zero =>
    obtain rfl : k = l.length := by omega
    simp [go]
  | succ d ih =>
    have hlt : k < l.length := by omega
    rw [List.drop_eq_getElem_cons hlt]
    have h := ih (k + 1) (by omega) (by omega)
    have e : l[k] = l.getD k 0 := by simp [hlt]
    simp only [go, e]
    exact h

/-- What the program's loop gathers is the reference's. -/
theorem runs_eq (l : List Int) (hl : l.length = 13) : runs l = ref 0 0 l := by
  have h := go_upto l 0 (by omega)
  have h2 := (go_ref l 0 [] 0 0).1 ⟨rfl, by omega⟩
  simp only [upto, List.drop_zero] at h
  rw [h, hl] at h2
  simpa [runs] using h2

end Go.Proofs.Ytcbcemeagiociaa.RunsM
