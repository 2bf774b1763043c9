/-
  Directories' entries in order: what is put, found, and taken out. Plain: nothing is assumed.
-/
import Derived.Test.YtlopdbhjdijlmaaQTree9b

namespace Go.Proofs.Ytlopdbhjdijlmaa
set_option linter.unusedSimpArgs false
set_option linter.unusedVariables false

/-- Ascending. -/
def SortP (l : List En) : Prop := l.Pairwise fun a b => ltE a b = true
theorem sortP_of {l : List En} (h : SortE l) : SortP l := by
  unfold SortP
  rw [List.pairwise_iff_getElem]
  intro i j hi hj hij
  have := h i j hij hj
  rw [List.getD_eq_getElem?_getD, List.getD_eq_getElem?_getD, List.getElem?_eq_getElem hi, List.getElem?_eq_getElem hj] at this
  exact this
theorem sortE_of {l : List En} (h : SortP l) : SortE l := by
  intro i j hij hj
  unfold SortP at h
  rw [List.pairwise_iff_getElem] at h
  have := h i j (by omega) hj hij
  rw [List.getD_eq_getElem?_getD, List.getD_eq_getElem?_getD, List.getElem?_eq_getElem (show i < l.length by omega), List.getElem?_eq_getElem hj]
  exact this

def refL : List En → ByteArray → Int
  | [], _ => -1
  | y :: r, t => if eqN y.name t = true then y.ino else refL r t
theorem refFrom_eq (l : List En) (t : ByteArray) : ∀ f k, k + f = l.length → refFrom l t k f = refL (l.drop k) t
  | 0, k, hk => by rw [List.drop_of_length_le (by omega)]; rfl
  | f + 1, k, hk => by
    rw [drop_getD (show k < l.length by omega)]
    show (if eqN (l.getD k default).name t then _ else _) = if eqN (l.getD k default).name t = true then _ else _
    rw [refFrom_eq l t f (k + 1) (by omega)]
theorem ref_eq (l : List En) (t : ByteArray) : refFrom l t 0 l.length = refL l t := by rw [refFrom_eq l t l.length 0 (by omega), List.drop_zero]

theorem eqN_iff (a b : ByteArray) : eqN a b = true ↔ a = b := by
  unfold eqN
  rw [beq_iff_eq, data_toL, data_toL]
  constructor
  · intro h
    cases a; cases b
    simp at h
    simp [h]
  · intro h; rw [h]
theorem eqN_self (a : ByteArray) : eqN a a = true := (eqN_iff a a).2 rfl
def ltN (a b : ByteArray) : Bool := Op.bytesLess a.toList b.toList
theorem ltN_ne {a b : ByteArray} (h : ltN a b = true) : eqN a b = false := by
  cases he : eqN a b with
  | false => rfl
  | true =>
    rw [(eqN_iff _ _).1 he] at h
    unfold ltN at h
    rw [blq_irrefl] at h
    cases h
theorem ltN_ne' {a b : ByteArray} (h : ltN a b = true) : eqN b a = false := by
  cases he : eqN b a with
  | false => rfl
  | true =>
    rw [(eqN_iff _ _).1 he] at h
    unfold ltN at h
    rw [blq_irrefl] at h
    cases h
theorem ltN_of {a b : ByteArray} (h1 : ltN a b = false) (h2 : eqN a b = false) : ltN b a = true := blq_total h1 h2
theorem ltE_iff (a b : En) : ltE a b = ltN a.name b.name := rfl

theorem refL_cons (y : En) (r : List En) (t : ByteArray) : refL (y :: r) t = if eqN y.name t = true then y.ino else refL r t := rfl
theorem refL_skip {A : List En} {t : ByteArray} (h : ∀ a ∈ A, eqN a.name t = false) (r : List En) : refL (A ++ r) t = refL r t := by
  induction A with
  | nil => rfl
  | cons a A ih =>
    rw [List.cons_append, refL_cons, h a (by simp), if_neg (by decide)]
    exact ih (fun b hb => h b (by simp [hb]))
theorem refL_none {A : List En} {t : ByteArray} (h : ∀ a ∈ A, eqN a.name t = false) : refL A t = -1 := by
  have := refL_skip h []
  rw [List.append_nil] at this
  exact this
theorem refL_mem {m : List En} (h : SortP m) {z : En} (hz : z ∈ m) : refL m z.name = z.ino := by
  induction m with
  | nil => cases hz
  | cons y r ih =>
    unfold SortP at h
    rw [List.pairwise_cons] at h
    rw [refL_cons]
    rcases List.mem_cons.1 hz with rfl | hr
    · rw [if_pos (eqN_self _)]
    · have := h.1 z hr
      rw [ltE_iff] at this
      rw [ltN_ne this, if_neg (by decide)]
      exact ih h.2 hr

theorem drop_skip {A : List En} {t : ByteArray} (h : ∀ a ∈ A, eqN a.name t = false) : dropE A t = A := by
  unfold dropE
  rw [List.filter_eq_self]
  intro a ha
  rw [h a ha]
  rfl
theorem dropE_append (A B : List En) (t : ByteArray) : dropE (A ++ B) t = dropE A t ++ dropE B t := List.filter_append ..

/-- How a name parts entries. -/
structure Parts (l : List En) (t : ByteArray) (A D C : List En) : Prop where
  eq : l = A ++ (D ++ C)
  lo : ∀ a ∈ A, ltN a.name t = true
  hi : ∀ c ∈ C, ltN t c.name = true
  mid : (hasE l t = true ∧ ∃ y, D = [y] ∧ y.name = t ∧ findE l t = y.ino) ∨ (hasE l t = false ∧ D = [] ∧ findE l t = 0)
  put : ∀ x : En, x.name = t → withE l x = A ++ x :: C

theorem takeWhile_len_take {α : Type} (p : α → Bool) (l : List α) : l.take (l.takeWhile p).length = l.takeWhile p := by
  induction l with
  | nil => rfl
  | cons a l ih =>
    rw [List.takeWhile_cons]
    split
    · simp [ih]
    · simp
theorem takeWhile_len_drop {α : Type} (p : α → Bool) (l : List α) : l.drop (l.takeWhile p).length = l.dropWhile p := by
  induction l with
  | nil => rfl
  | cons a l ih =>
    rw [List.takeWhile_cons, List.dropWhile_cons]
    split
    · simp [ih]
    · simp
theorem dropWhile_head {α : Type} {p : α → Bool} {l r : List α} {y : α} (h : l.dropWhile p = y :: r) : p y = false := by
  induction l with
  | nil => cases h
  | cons a l ih =>
    rw [List.dropWhile_cons] at h
    split at h
    · exact ih h
    · rename_i ha
      injection h with h1 _
      rw [← h1]
      simpa using ha
theorem mem_takeWhile {α : Type} (p : α → Bool) (l : List α) : ∀ a ∈ l.takeWhile p, p a = true := by
  induction l with
  | nil => intro a h; cases h
  | cons b l ih =>
    intro a ha
    rw [List.takeWhile_cons] at ha
    split at ha
    · rename_i hb
      rcases List.mem_cons.1 ha with rfl | h
      · exact hb
      · exact ih a h
    · cases ha

theorem parts (l : List En) (hs : SortP l) (t : ByteArray) : ∃ A D C, Parts l t A D C := by
  obtain ⟨A, hA⟩ : ∃ A, A = l.takeWhile fun y => ltE y ⟨t, 0⟩ := ⟨_, rfl⟩
  obtain ⟨B, hB⟩ : ∃ B, B = l.dropWhile fun y => ltE y ⟨t, 0⟩ := ⟨_, rfl⟩
  have hk : lowE l t = A.length := by rw [hA]; rfl
  have ht : l.take (lowE l t) = A := by rw [hk, hA, takeWhile_len_take]
  have hd : l.drop (lowE l t) = B := by rw [hk, hA, takeWhile_len_drop, hB]
  have hl : l = A ++ B := by rw [hA, hB, List.takeWhile_append_dropWhile]
  have hlo : ∀ a ∈ A, ltN a.name t = true := fun a ha => by rw [hA] at ha; exact mem_takeWhile _ _ a ha
  have hBs : SortP B := by
    unfold SortP at hs ⊢
    rw [hl, List.pairwise_append] at hs
    exact hs.2.1
  have hget : ∀ y r, B = y :: r → lowE l t < l.length ∧ l.getD (lowE l t) default = y := fun y r e => by
    have hlen : l.length = A.length + B.length := by rw [hl, List.length_append]
    have h1 : lowE l t < l.length := by rw [hk, hlen, e, List.length_cons]; omega
    have := drop_getD h1
    rw [hd, e] at this
    injection this with h2 _
    exact ⟨h1, h2.symm⟩
  have hhead : ∀ y r, B = y :: r → ltN y.name t = false := fun y r e =>
    dropWhile_head (p := fun y => ltE y ⟨t, 0⟩) (l := l) (r := r) (hB.symm.trans e)
  cases hBB : B with
  | nil =>
    have hlen : lowE l t = l.length := by rw [hk, hl, hBB, List.append_nil]
    have hhas : hasE l t = false := by
      unfold hasE
      rw [hlen, decide_eq_false (by omega), Bool.false_and]
    refine ⟨A, [], [], by rw [hl, hBB]; rfl, hlo, (fun c h => by cases h), .inr ⟨hhas, rfl, by unfold findE; rw [hhas]; rfl⟩, fun x hx => ?_⟩
    unfold withE
    rw [hx, hhas, if_neg (by decide)]
    unfold putE
    rw [ht, hd, hBB]
  | cons y r =>
    obtain ⟨h1, h2⟩ := hget y r hBB
    have h3 := hhead y r hBB
    rw [hBB] at hBs
    unfold SortP at hBs
    rw [List.pairwise_cons] at hBs
    by_cases he : eqN y.name t = true
    · have hyt := (eqN_iff _ _).1 he
      have hhas : hasE l t = true := by
        unfold hasE
        rw [h2, hyt, decide_eq_true h1, (cmpN_eq t t).2 rfl]
        rfl
      refine ⟨A, [y], r, by rw [hl, hBB]; rfl, hlo, fun c hc => by rw [← hyt]; exact hBs.1 c hc, .inl ⟨hhas, y, rfl, hyt, by unfold findE; rw [hhas, if_pos rfl, h2]⟩, fun x hx => ?_⟩
      unfold withE
      rw [hx, hhas, if_pos rfl, List.set_eq_take_append_cons_drop, if_pos h1, ht]
      congr 2
      have := congrArg (List.drop 1) hd
      rw [List.drop_drop, hBB] at this
      simpa using this
    · have he' : eqN y.name t = false := by simpa using he
      have hty : ltN t y.name = true := ltN_of h3 he'
      have hhas : hasE l t = false := by
        unfold hasE
        rw [h2, decide_eq_false (fun h => he ((eqN_iff _ _).2 ((cmpN_eq _ _).1 h))), Bool.and_false]
      refine ⟨A, [], y :: r, by rw [hl, hBB]; rfl, hlo, fun c hc => ?_, .inr ⟨hhas, rfl, by unfold findE; rw [hhas]; rfl⟩, fun x hx => ?_⟩
      · rcases List.mem_cons.1 hc with rfl | hc
        · exact hty
        · exact blq_trans hty (hBs.1 c hc)
      · unfold withE
        rw [hx, hhas, if_neg (by decide)]
        unfold putE
        rw [ht, hd, hBB]

theorem Parts.ne {l : List En} {t : ByteArray} {A D C : List En} (h : Parts l t A D C) : (∀ a ∈ A, eqN a.name t = false) ∧ ∀ c ∈ C, eqN c.name t = false := ⟨fun a ha => ltN_ne (h.lo a ha), fun c hc => ltN_ne' (h.hi c hc)⟩
theorem Parts.drop {l : List En} {t : ByteArray} {A D C : List En} (h : Parts l t A D C) : dropE l t = A ++ C := by
  obtain ⟨n1, n2⟩ := h.ne
  rw [h.eq, dropE_append, dropE_append, drop_skip n1, drop_skip n2]
  have : dropE D t = [] := by
    rcases h.mid with ⟨-, y, rfl, hy, -⟩ | ⟨-, rfl, -⟩
    · have : eqN y.name t = true := (eqN_iff _ _).2 hy
      simp [dropE, this]
    · rfl
  rw [this, List.nil_append]
theorem Parts.drop_with {l : List En} {t : ByteArray} {A D C : List En} (h : Parts l t A D C) {x : En} (hx : x.name = t) : dropE (withE l x) t = dropE l t := by
  obtain ⟨n1, n2⟩ := h.ne
  rw [h.drop, h.put x hx, dropE_append, drop_skip n1]
  have : dropE (x :: C) t = C := by
    show dropE ([x] ++ C) t = C
    rw [dropE_append, drop_skip n2]
    have : eqN x.name t = true := (eqN_iff _ _).2 hx
    simp [dropE, this]
  rw [this]
theorem Parts.sorted {l : List En} {t : ByteArray} {A D C : List En} (h : Parts l t A D C) (hs : SortP l) {x : En} (hx : x.name = t) : SortP (withE l x) := by
  rw [h.put x hx]
  unfold SortP at hs ⊢
  rw [h.eq, List.pairwise_append, List.pairwise_append] at hs
  rw [List.pairwise_append, List.pairwise_cons]
  refine ⟨hs.1, ⟨fun c hc => ?_, hs.2.1.2.1⟩, fun a ha b hb => ?_⟩
  · rw [ltE_iff, hx]; exact h.hi c hc
  · rcases List.mem_cons.1 hb with rfl | hb
    · rw [ltE_iff, hx]; exact h.lo a ha
    · exact hs.2.2 a ha b (List.mem_append_right _ hb)
theorem Parts.ref {l : List En} {t : ByteArray} {A D C : List En} (h : Parts l t A D C) : (hasE l t = true ∧ refL l t = findE l t) ∨ (hasE l t = false ∧ refL l t = -1 ∧ findE l t = 0) := by
  obtain ⟨n1, n2⟩ := h.ne
  rcases h.mid with ⟨h1, y, rfl, hy, hf⟩ | ⟨h1, rfl, hf⟩
  · refine .inl ⟨h1, ?_⟩
    rw [hf, h.eq, refL_skip n1]
    show refL (y :: C) t = _
    rw [refL_cons, (eqN_iff _ _).2 hy, if_pos rfl]
  · refine .inr ⟨h1, ?_, hf⟩
    rw [h.eq, refL_skip n1]
    exact refL_none n2
theorem Parts.ref_with {l : List En} {t : ByteArray} {A D C : List En} (h : Parts l t A D C) {x : En} (hx : x.name = t) : refL (withE l x) t = x.ino := by
  rw [h.put x hx, refL_skip h.ne.1, refL_cons, (eqN_iff _ _).2 hx, if_pos rfl]
theorem Parts.lens {l : List En} {t : ByteArray} {A D C : List En} (h : Parts l t A D C) {x : En} (hx : x.name = t) : (withE l x).length = (if hasE l t = true then l.length else l.length + 1) ∧ (dropE l t).length + 1 = (withE l x).length := by
  rw [h.drop, h.put x hx]
  simp only [List.length_append, List.length_cons]
  rcases h.mid with ⟨h1, y, rfl, -, -⟩ | ⟨h1, rfl, -⟩
  · rw [h1, if_pos rfl]
    have := congrArg List.length h.eq
    simp only [List.length_append, List.length_cons, List.length_nil] at this
    omega
  · rw [h1, if_neg (by decide)]
    have := congrArg List.length h.eq
    simp only [List.length_append, List.length_nil] at this
    omega
theorem Parts.ref_drop {l : List En} {t : ByteArray} {A D C : List En} (h : Parts l t A D C) (hs : SortP l) {z : En} (hz : z ∈ l) (hne : eqN z.name t = false) : refL (dropE l t) z.name = z.ino := by
  refine refL_mem ?_ ?_
  · unfold SortP dropE at *
    exact hs.filter _
  · unfold dropE
    rw [List.mem_filter]
    exact ⟨hz, by rw [hne]; rfl⟩
end Go.Proofs.Ytlopdbhjdijlmaa
