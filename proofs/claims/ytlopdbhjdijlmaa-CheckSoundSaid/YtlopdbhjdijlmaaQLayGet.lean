/-
  What each word is when an inode was laid; what is read of such words; what exact words say: plain lemmas.
  What blocks are taken and what their words are then; an inode that was laid is read again, also behind another: plain lemmas.
  imagolaw06.Sheet: a sheet of noughts and four words of bits: a contract. No condition but the words' bounds.
-/
import Derived.Test.YtlopdbhjdijlmaaQRd1M
import Derived.Test.YtlopdbhjdijlmaaQPackM

namespace Go.Proofs.Ytlopdbhjdijlmaa
set_option linter.unusedSimpArgs false
set_option linter.unusedVariables false

theorem get_put (S : Sh) (i v j : Int) : (S.put i v).get j = if j = i ∧ 0 ≤ i ∧ i < 3128 then v else S.get j := by
  unfold Sh.put
  by_cases h : 0 ≤ i ∧ i < 3128
  · rw [if_pos h]
    unfold Sh.get upd
    dsimp only
    by_cases hj : 0 ≤ j ∧ j < 3128
    · rw [if_pos hj, if_pos hj]
      by_cases e : j = i
      · rw [if_pos (by omega), if_pos ⟨e, h⟩]
      · rw [if_neg (by omega), if_neg (fun hh => e hh.1)]
    · rw [if_neg hj, if_neg hj, if_neg (fun hh => hj (by omega))]
  · rw [if_neg h, if_neg (fun hh => h hh.2)]

theorem get_put_ne (S : Sh) {i v j : Int} (h : j ≠ i) : (S.put i v).get j = S.get j := by rw [get_put, if_neg (fun hh => h hh.1)]
theorem get_put_eq (S : Sh) {i v j : Int} (h : j = i) (h0 : 0 ≤ i) (h1 : i < 3128) : (S.put i v).get j = v := by rw [get_put, if_pos ⟨h, h0, h1⟩]

/-- Nothing but the inode's and the list's words. -/
theorem numbersTo_out (S : Sh) (at_ : Int) (l : List Int) (list : Int) : ∀ m, m ≤ 13 → ∀ j, (j < at_ + 2 ∨ at_ + 7 ≤ j) → (list ≠ 0 → j < 1080 + list * 8 ∨ 1088 + list * 8 ≤ j) → (numbersTo S at_ l list m).get j = S.get j := by
  intro m
  induction m with
  | zero => intro _ j _ _; rfl
  | succ m ih =>
    intro hm j h1 h2
    simp only [numbersTo]
    unfold numberAt
    split
    · rw [get_put_ne _ (by omega)]
      exact ih (by omega) j h1 h2
    · split
      · rename_i h3 h4
        have := h2 h4
        rw [get_put_ne _ (by omega)]
        exact ih (by omega) j h1 h2
      · exact ih (by omega) j h1 h2

theorem numbersTo_num (S : Sh) {at_ : Int} (l : List Int) {list : Int} (ha : 820 ≤ at_ ∧ at_ ≤ 1072) (hli : 0 ≤ list ∧ list < 256) : ∀ m, m ≤ 13 → ∀ k, k < 5 → k < m → (numbersTo S at_ l list m).get (at_ + 2 + (k : Int)) = l.getD k 0 := by
  intro m
  induction m with
  | zero => intro _ k _ h; omega
  | succ m ih =>
    intro hm k h1 h2
    simp only [numbersTo]
    unfold numberAt
    by_cases e : k = m
    · subst e
      rw [if_pos h1, get_put_eq _ rfl (by omega) (by omega)]
    · split
      · rw [get_put_ne _ (by omega)]
        exact ih (by omega) k h1 (by omega)
      · split
        · rw [get_put_ne _ (by omega)]
          exact ih (by omega) k h1 (by omega)
        · exact ih (by omega) k h1 (by omega)

theorem numbersTo_lst (S : Sh) {at_ : Int} (l : List Int) {list : Int} (ha : 820 ≤ at_ ∧ at_ ≤ 1072) (hli : 0 ≤ list ∧ list < 256) (hl0 : list ≠ 0) : ∀ m, m ≤ 13 → ∀ w : Nat, w < 8 → 5 + w < m → (numbersTo S at_ l list m).get (1080 + list * 8 + (w : Int)) = l.getD (5 + w) 0 := by
  intro m
  induction m with
  | zero => intro _ k _ h; omega
  | succ m ih =>
    intro hm w h1 h2
    simp only [numbersTo]
    unfold numberAt
    by_cases e : 5 + w = m
    · subst e
      rw [if_neg (by omega), if_pos hl0, get_put_eq _ (by omega) (by omega) (by omega)]
    · rw [if_neg (by omega), if_pos hl0, get_put_ne _ (by omega)]
      exact ih (by omega) w h1 (by omega)

/-- Own blocks, each there once. -/
def OwnOK (own : List Nat) (q : Nat) : Prop := (∀ a, a < q → own.getD a 0 < 256) ∧ ∀ a b, a < b → b < q → own.getD a 0 ≠ own.getD b 0
theorem OwnOK.ne {own : List Nat} {q : Nat} (h : OwnOK own q) {a b : Nat} (ha : a < q) (hb : b < q) (hne : a ≠ b) : own.getD a 0 ≠ own.getD b 0 := by
  by_cases hlt : a < b
  · exact h.2 a b hlt hb
  · exact fun e => h.2 b a (by omega) ha e.symm

theorem entriesTo_out (S : Sh) (own : List Nat) (l : List En) (q : Nat) (j : Int) (hj : ∀ a, a < q → j < 1080 + ((own.getD a 0 : Nat) : Int) * 8 ∨ 1088 + ((own.getD a 0 : Nat) : Int) * 8 ≤ j) : ∀ m, m ≤ 4 * q → (entriesTo S own l m).get j = S.get j := by
  intro m
  induction m with
  | zero => intro _; rfl
  | succ m ih =>
    intro hm
    simp only [entriesTo]
    unfold entryAt
    have := hj (m / 4) (by omega)
    rw [get_put_ne _ (by omega), get_put_ne _ (by omega)]
    exact ih (by omega)

/-- A word of an entry. -/
def entV (l : List En) (k r : Nat) : Int := if r % 2 = 0 then ((nword (l.getD k default).name : Nat) : Int) else (l.getD k default).ino

theorem entriesTo_in (S : Sh) (own : List Nat) (l : List En) (q : Nat) (ho : OwnOK own q) (a : Nat) (ha : a < q) (r : Nat) (hr : r < 8) : ∀ m, m ≤ 4 * q →
    (entriesTo S own l m).get (1080 + ((own.getD a 0 : Nat) : Int) * 8 + (r : Int)) = if 4 * a + r / 2 < m then entV l (4 * a + r / 2) r else S.get (1080 + ((own.getD a 0 : Nat) : Int) * 8 + (r : Int)) := by
  intro m
  have hb := ho.1 a ha
  induction m with
  | zero => intro _; rw [if_neg (by omega)]; rfl
  | succ m ih =>
    intro hm
    simp only [entriesTo]
    unfold entryAt
    have hm4 : m / 4 < q := by omega
    by_cases e : m = 4 * a + r / 2
    · have e4 : m / 4 = a := by omega
      have e5 : m % 4 = r / 2 := by omega
      rw [e4, e5, if_pos (by omega), ← e]
      unfold entV
      by_cases e2 : r % 2 = 0
      · rw [if_pos e2, get_put_ne _ (by omega), get_put_eq _ (by omega) (by omega) (by omega)]
      · rw [if_neg e2, get_put_eq _ (by omega) (by omega) (by omega)]
    · have hne : 1080 + ((own.getD a 0 : Nat) : Int) * 8 + (r : Int) ≠ 1080 + ((own.getD (m / 4) 0 : Nat) : Int) * 8 + 2 * ((m % 4 : Nat) : Int) ∧ 1080 + ((own.getD a 0 : Nat) : Int) * 8 + (r : Int) ≠ 1080 + ((own.getD (m / 4) 0 : Nat) : Int) * 8 + 2 * ((m % 4 : Nat) : Int) + 1 := by
        by_cases e4 : m / 4 = a
        · rw [e4]; omega
        · have := ho.ne hm4 ha e4
          omega
      rw [get_put_ne _ hne.2, get_put_ne _ hne.1, ih (by omega)]
      by_cases h : 4 * a + r / 2 < m
      · rw [if_pos h, if_pos (by omega)]
      · rw [if_neg h, if_neg (by omega)]

/-- The words of an inode that was laid, with its own blocks. -/
structure LaidQ (T : Sh) (at_ : Int) (n : Ino) (own : List Nat) (list : Int) : Prop where
  tag : T.get at_ = tagW n
  size : T.get (at_ + 1) = n.size
  num : ∀ k : Nat, k < 5 → T.get (at_ + 2 + (k : Int)) = (blOf n own).getD k 0
  lis : T.get (at_ + 7) = list
  ent : ∀ a, a < need1 n → ∀ r : Nat, r < 8 → T.get (1080 + ((own.getD a 0 : Nat) : Int) * 8 + (r : Int)) = if 4 * a + r / 2 < n.ents.length then entV n.ents (4 * a + r / 2) r else 0
  lst : list ≠ 0 → ∀ w : Nat, w < 8 → T.get (1080 + list * 8 + (w : Int)) = (blOf n own).getD (5 + w) 0

theorem lay1Q_laid (S : Sh) {at_ : Int} (ha : 820 ≤ at_ ∧ at_ ≤ 1072) (n : Ino) (own : List Nat) {list : Int} (hli : 0 ≤ list ∧ list < 256) (ho : OwnOK own (need1 n)) (hne : ∀ a, a < need1 n → list ≠ 0 → ((own.getD a 0 : Nat) : Int) ≠ list)
    (hz : ∀ a, a < need1 n → ∀ r : Nat, r < 8 → S.get (1080 + ((own.getD a 0 : Nat) : Int) * 8 + (r : Int)) = 0) : LaidQ (lay1Q S at_ n own list) at_ n own list := by
  have hq : n.ents.length ≤ 4 * need1 n := by unfold need1; omega
  have hlow : ∀ (X : Sh) (j : Int), j < 1080 → (entriesS X own n.ents).get j = X.get j := fun X j hj => entriesTo_out X own n.ents (need1 n) j (fun a _ => .inl (by omega)) _ hq
  have hlst : list ≠ 0 → ∀ (X : Sh) (w : Nat), w < 8 → (entriesS X own n.ents).get (1080 + list * 8 + (w : Int)) = X.get (1080 + list * 8 + (w : Int)) := fun h0 X w hw => entriesTo_out X own n.ents (need1 n) _ (fun a ha => by have := hne a ha h0; omega) _ hq
  unfold lay1Q
  refine ⟨?_, ?_, fun k hk => ?_, ?_, fun a ha' r hr => ?_, fun h0 w hw => ?_⟩
  · rw [hlow _ _ (by omega)]
    unfold numbersS
    rw [get_put_ne _ (by omega), numbersTo_out _ _ _ _ 13 (by omega) _ (by omega) (fun _ => by omega), get_put_ne _ (by omega), get_put_eq _ rfl (by omega) (by omega)]
  · rw [hlow _ _ (by omega)]
    unfold numbersS
    rw [get_put_ne _ (by omega), numbersTo_out _ _ _ _ 13 (by omega) _ (by omega) (fun _ => by omega), get_put_eq _ rfl (by omega) (by omega)]
  · rw [hlow _ _ (by omega)]
    unfold numbersS
    rw [get_put_ne _ (by omega), numbersTo_num _ _ ha hli 13 (by omega) k hk (by omega)]
  · rw [hlow _ _ (by omega)]
    unfold numbersS
    rw [get_put_eq _ rfl (by omega) (by omega)]
  · have hb := ho.1 a ha'
    show (entriesTo _ own n.ents n.ents.length).get _ = _
    rw [entriesTo_in _ own n.ents (need1 n) ho a ha' r hr _ hq]
    split
    · rfl
    · unfold numbersS
      rw [get_put_ne _ (by omega), numbersTo_out _ _ _ _ 13 (by omega) _ (by omega) (fun h0 => by have := hne a ha' h0; omega), get_put_ne _ (by omega), get_put_ne _ (by omega)]
      exact hz a ha' r hr
  · rw [hlst h0 _ w hw]
    unfold numbersS
    rw [get_put_ne _ (by omega), numbersTo_lst _ _ ha hli h0 13 (by omega) w hw (by omega)]

/-- Every other word stays. -/
theorem lay1Q_out (S : Sh) {at_ : Int} (n : Ino) (own : List Nat) {list : Int} (j : Int) (hj : j < at_ ∨ at_ + 8 ≤ j) (ho : ∀ a, a < need1 n → j < 1080 + ((own.getD a 0 : Nat) : Int) * 8 ∨ 1088 + ((own.getD a 0 : Nat) : Int) * 8 ≤ j)
    (hl : list ≠ 0 → j < 1080 + list * 8 ∨ 1088 + list * 8 ≤ j) : (lay1Q S at_ n own list).get j = S.get j := by
  have hq : n.ents.length ≤ 4 * need1 n := by unfold need1; omega
  unfold lay1Q
  rw [show (entriesS (numbersS ((S.put at_ (tagW n)).put (at_ + 1) n.size) at_ (blOf n own) list) own n.ents).get j = (numbersS ((S.put at_ (tagW n)).put (at_ + 1) n.size) at_ (blOf n own) list).get j from entriesTo_out _ own n.ents (need1 n) j ho _ hq]
  unfold numbersS
  rw [get_put_ne _ (by omega), numbersTo_out _ _ _ _ 13 (by omega) _ (by omega) hl, get_put_ne _ (by omega), get_put_ne _ (by omega)]

theorem new_nil_get (j : Int) : (Sh.new []).get j = 0 := by
  unfold Sh.get Sh.new
  dsimp only
  split
  · split
    · simp
    · rfl
  · rfl

theorem eight {P : Int → Prop} {at_ : Int} (h0 : P at_) (h1 : P (at_ + 1)) (h2 : ∀ k : Nat, k < 5 → P (at_ + 2 + (k : Int))) (h7 : P (at_ + 7)) : ∀ k : Nat, k < 8 → P (at_ + (k : Int)) := by
  intro k hk
  by_cases e0 : k = 0
  · subst e0; rw [show at_ + ((0 : Nat) : Int) = at_ by omega]; exact h0
  · by_cases e1 : k = 1
    · subst e1; exact h1
    · by_cases e7 : k = 7
      · subst e7; exact h7
      · have := h2 (k - 2) (by omega)
        rw [show at_ + 2 + ((k - 2 : Nat) : Int) = at_ + (k : Int) by omega] at this
        exact this

/-- Exact words are an inode's that was laid, and the other way about. -/
theorem exactP_iff (S : Sh) {at_ : Int} (ha : 820 ≤ at_ ∧ at_ ≤ 1072) (n : Ino) (own : List Nat) {list : Int} (hli : 0 ≤ list ∧ list < 256) (hon : own.length = need1 n) (ho : OwnOK own (need1 n)) (hne : ∀ a, a < need1 n → list ≠ 0 → ((own.getD a 0 : Nat) : Int) ≠ list) :
    ExactP S at_ n own list ↔ LaidQ S at_ n own list ∧ (list ≠ 0 ↔ LongP (blOf n own)) := by
  have hT := lay1Q_laid (Sh.new []) ha n own hli ho hne (fun _ _ _ _ => new_nil_get _)
  unfold ExactP
  constructor
  · rintro ⟨h1, h2, h3, h4⟩
    refine ⟨⟨?_, ?_, fun k hk => ?_, ?_, fun a ha' r hr => ?_, fun h0 w hw => ?_⟩, h2⟩
    · have := h1 0 (by omega)
      rw [show at_ + ((0 : Nat) : Int) = at_ by omega] at this
      rw [this, hT.tag]
    · exact (h1 1 (by omega)).trans hT.size
    · have := h1 (k + 2) (by omega)
      rw [show at_ + ((k + 2 : Nat) : Int) = at_ + 2 + (k : Int) by omega] at this
      rw [this, hT.num k hk]
    · exact (h1 7 (by omega)).trans hT.lis
    · rw [h3 a (by omega) r hr, hT.ent a ha' r hr]
    · rw [h4 h0 w hw, hT.lst h0 w hw]
  · rintro ⟨h, h2⟩
    refine ⟨?_, h2, fun a ha' r hr => ?_, fun h0 w hw => ?_⟩
    · refine eight (P := fun j => S.get j = (lay1Q (Sh.new []) at_ n own list).get j) ?_ ?_ (fun k hk => ?_) ?_
      · rw [h.tag, hT.tag]
      · rw [h.size, hT.size]
      · rw [h.num k hk, hT.num k hk]
      · rw [h.lis, hT.lis]
    · rw [h.ent a (by omega) r hr, hT.ent a (by omega) r hr]
    · rw [h.lst h0 w hw, hT.lst h0 w hw]

theorem blockI_id {x : Int} (h : 0 ≤ x ∧ x < 256) : blockI x = x := by unfold blockI; rw [if_neg (by omega)]

theorem tagW_parts {n : Ino} (hf : n.format = 1) (hk : 0 ≤ n.kind ∧ n.kind < 256) (hl : 0 ≤ n.links ∧ n.links < 65536) : tagW n % 256 = n.format ∧ tagW n / 256 % 256 = n.kind ∧ tagW n / 65536 % 65536 = n.links := by
  unfold tagW
  omega

theorem blOf_range {n : Ino} (hr : RightP n) (hl : n.bl.length = 13) {own : List Nat} (hx : need1 n ≤ own.length) (ho : OwnOK own (need1 n)) (k : Nat) (hk : k < 13) : 0 ≤ (blOf n own).getD k 0 ∧ (blOf n own).getD k 0 < 256 := by
  rw [blOf_get hl own hx k hk]
  split
  · rename_i h
    have := ho.1 k h
    omega
  · exact hr.blk k hk

theorem readL_laid {T : Sh} {at_ : Int} {n : Ino} {own : List Nat} {list : Int} (h : LaidQ T at_ n own list) (hli : 0 ≤ list ∧ list < 256) : readL T at_ = list := by
  unfold readL
  rw [h.lis, blockI_id hli]

theorem readTo_laid {T : Sh} {at_ : Int} {n : Ino} {own : List Nat} {list : Int} (h : LaidQ T at_ n own list) (hli : 0 ≤ list ∧ list < 256) (hr : RightP n) (hl : n.bl.length = 13) (hx : need1 n ≤ own.length) (ho : OwnOK own (need1 n)) (hlong : list ≠ 0 ↔ LongP (blOf n own)) (h13 : need1 n ≤ 13) : readTo T at_ 13 = blOf n own := by
  apply List.ext_getElem
  · rw [readTo_len, blOf_len n hl own hx h13]
  · intro k h1 h2
    have hk : k < 13 := by rw [readTo_len] at h1; exact h1
    have e1 : (readTo T at_ 13)[k] = (readTo T at_ 13).getD k 0 := by rw [List.getD_eq_getElem?_getD, List.getElem?_eq_getElem h1]; rfl
    have e2 : (blOf n own)[k] = (blOf n own).getD k 0 := by rw [List.getD_eq_getElem?_getD, List.getElem?_eq_getElem h2]; rfl
    have hb := blOf_range hr hl hx ho k hk
    refine e1.trans (Eq.trans ?_ e2.symm)
    rw [readTo_get T at_ 13 k hk, if_pos hk]
    unfold readB
    split
    · rename_i h5
      rw [h.num k h5, blockI_id hb]
    · rename_i h5
      rw [readL_laid h hli]
      split
      · rename_i h0
        have := h.lst (by omega) (k - 5) (by omega)
        rw [show 1080 + list * 8 + ((k - 5 : Nat) : Int) = 1080 + list * 8 + (k : Int) - 5 by omega, show 5 + (k - 5) = k by omega] at this
        rw [this, blockI_id hb]
      · rename_i h0
        by_cases e : (blOf n own).getD k 0 = 0
        · exact e.symm
        · exact absurd (hlong.2 ⟨k, by omega, hk, e⟩) (by omega)

theorem readN_laid {T : Sh} {at_ : Int} {n : Ino} {own : List Nat} {list : Int} (h : LaidQ T at_ n own list) (hli : 0 ≤ list ∧ list < 256) (hr : RightP n) (hf : n.format = 1) (hl : n.bl.length = 13) (hx : need1 n ≤ own.length) (ho : OwnOK own (need1 n)) (hlong : list ≠ 0 ↔ LongP (blOf n own)) :
    readN T at_ = ⟨n.format, n.kind, n.links, n.size, blOf n own, []⟩ := by
  have h6 := need1_le hr
  obtain ⟨s1, s2, s3, s4⟩ := hr.small
  have ht := tagW_parts hf s2 s3
  show (⟨T.get at_ % 256, T.get at_ / 256 % 256, T.get at_ / 65536 % 65536, if 1048576 < T.get (at_ + 1) then 1048576 else T.get (at_ + 1), readTo T at_ 13, []⟩ : Ino) = _
  rw [readTo_laid h hli hr hl hx ho hlong (by omega), h.tag, h.size, ht.1, ht.2.1, ht.2.2, if_neg (by omega)]

theorem namesTo_laid {T : Sh} {at_ : Int} {n : Ino} {own : List Nat} {list : Int} (h : LaidQ T at_ n own list) (hr : RightP n) (hl : n.bl.length = 13) (hx : need1 n ≤ own.length) (ho : OwnOK own (need1 n)) (hpos : ∀ a, a < need1 n → 1 ≤ own.getD a 0) :
    ∀ m, m ≤ n.ents.length → namesTo T (blOf n own) m = some (n.ents.take m, own.take ((m + 3) / 4)) := by
  have h6 := need1_le hr
  have h24 := hr.ents
  intro m
  induction m with
  | zero => intro _; simp [namesTo]
  | succ m ih =>
    intro hm
    simp only [namesTo]
    rw [ih (by omega), Option.bind_some]
    unfold namesStep
    have hq : m / 4 < need1 n := by unfold need1; omega
    have hb : (blOf n own).getD (m / 4) 0 = ((own.getD (m / 4) 0 : Nat) : Int) := by rw [blOf_get hl own hx (m / 4) (by omega), if_pos hq]
    have hp := hpos _ hq
    rw [hb, if_neg (by omega)]
    have e1 := h.ent (m / 4) hq (2 * (m % 4)) (by omega)
    have e2 := h.ent (m / 4) hq (2 * (m % 4) + 1) (by omega)
    rw [show 4 * (m / 4) + 2 * (m % 4) / 2 = m by omega, if_pos (by omega)] at e1
    rw [show 4 * (m / 4) + (2 * (m % 4) + 1) / 2 = m by omega, if_pos (by omega)] at e2
    unfold entV at e1 e2
    rw [if_pos (by omega)] at e1
    rw [if_neg (by omega)] at e2
    rw [show 1080 + ((own.getD (m / 4) 0 : Nat) : Int) * 8 + ((2 * (m % 4) : Nat) : Int) = 1080 + ((own.getD (m / 4) 0 : Nat) : Int) * 8 + 2 * ((m % 4 : Nat) : Int) by omega] at e1
    rw [show 1080 + ((own.getD (m / 4) 0 : Nat) : Int) * 8 + ((2 * (m % 4) + 1 : Nat) : Int) = 1080 + ((own.getD (m / 4) 0 : Nat) : Int) * 8 + 2 * ((m % 4 : Nat) : Int) + 1 by omega] at e2
    obtain ⟨g1, -, g2, g3⟩ := hr.entOK m (by omega)
    rw [e1, e2, Int.toNat_natCast, if_pos ⟨isName_nword g1, g3⟩, wtext_nword (good_size g1).2]
    have hget : n.ents.getD m default = n.ents[m]'(by omega) := by rw [List.getD_eq_getElem?_getD, List.getElem?_eq_getElem (by omega)]; rfl
    have hsn : n.ents.take (m + 1) = n.ents.take m ++ [n.ents.getD m default] := by
      rw [hget, List.take_succ_eq_append_getElem (by omega)]
    have hown : (if m % 4 = 0 then own.take ((m + 3) / 4) ++ [(((own.getD (m / 4) 0 : Nat) : Int)).toNat] else own.take ((m + 3) / 4)) = own.take ((m + 1 + 3) / 4) := by
      by_cases e : m % 4 = 0
      · rw [if_pos e, Int.toNat_natCast, show (m + 3) / 4 = m / 4 by omega, show (m + 1 + 3) / 4 = m / 4 + 1 by omega]
        have hlt : m / 4 < own.length := by omega
        rw [List.take_succ_eq_append_getElem hlt, List.getD_eq_getElem?_getD, List.getElem?_eq_getElem hlt]
        rfl
      · rw [if_neg e, show (m + 1 + 3) / 4 = (m + 3) / 4 by omega]
    dsimp only
    rw [hown, hsn]

/-- What was laid is read. -/
theorem rd_of_laid {T : Sh} {at_ : Int} (ha : 820 ≤ at_ ∧ at_ ≤ 1072) {n : Ino} {own : List Nat} {list : Int} (h : LaidQ T at_ n own list) (hli : 0 ≤ list ∧ list < 256) (hr : RightP n) (hf : n.format = 1) (hl : n.bl.length = 13) (hon : own.length = need1 n) (ho : OwnOK own (need1 n))
    (hpos : ∀ a, a < need1 n → 1 ≤ own.getD a 0) (hlong : list ≠ 0 ↔ LongP (blOf n own)) (hne : ∀ a, a < need1 n → list ≠ 0 → ((own.getD a 0 : Nat) : Int) ≠ list) (hap : apartB (allOf own list) = true) : rdAt T at_ = some (n, allOf own list) := by
  have hrn := readN_laid h hli hr hf hl (by omega) ho hlong
  have hrl := readL_laid h hli
  have hex : ExactP T at_ n own list := (exactP_iff T ha n own hli hon ho hne).2 ⟨h, hlong⟩
  unfold rdAt
  rw [hrl, hrn, if_neg (by rw [hf]; omega)]
  dsimp only
  by_cases hk : n.kind = 2
  · rw [if_pos hk]
    rcases hr.2.2.2 with ⟨h1, -⟩ | ⟨-, hd⟩
    · omega
    · have hsz : min n.size.toNat 24 = n.ents.length := by have := hd.2.1; have := hd.2.2.1; omega
      rw [hsz, namesTo_laid h hr hl (by omega) ho hpos _ (Nat.le_refl _), Option.bind_some, List.take_length]
      have e1 : own.take ((n.ents.length + 3) / 4) = own := by
        rw [show (n.ents.length + 3) / 4 = own.length by rw [hon]; rfl, List.take_length]
      have hz : n.bl = zbl := by
        apply List.ext_getElem
        · rw [hl]; rfl
        · intro k h1 h2
          have := hd.2.2.2 k (by omega)
          rw [List.getD_eq_getElem?_getD, List.getElem?_eq_getElem h1] at this
          simp only [Option.getD_some] at this
          rw [this]
          exact (zbl_mem (List.getElem_mem h2)).symm
      have e2 : ({ format := n.format, kind := n.kind, links := n.links, size := n.size, bl := zbl, ents := n.ents } : Ino) = n := by rw [← hz]
      dsimp only
      rw [e1, e2]
      unfold finR
      rw [if_pos ⟨hr, hap, hex⟩]
  · rw [if_neg hk]
    rcases hr.2.2.2 with ⟨-, hfi⟩ | ⟨h1, -⟩
    · have hn0 : need1 n = 0 := by unfold need1; rw [hfi.2.2.2]; rfl
      have e0 : own = [] := List.eq_nil_of_length_eq_zero (by omega)
      subst e0
      have e1 : blOf n [] = n.bl := by unfold blOf; rw [hn0]; simp
      have e2 : ({ format := n.format, kind := n.kind, links := n.links, size := n.size, bl := blOf n [], ents := [] } : Ino) = n := by rw [e1, ← hfi.2.2.2]
      rw [e2]
      unfold finR
      rw [if_pos ⟨hr, hap, hex⟩]
    · omega

end Go.Proofs.Ytlopdbhjdijlmaa

namespace Go.Proofs.Ytlopdbhjdijlmaa
set_option linter.unusedSimpArgs false
set_option linter.unusedVariables false

theorem get_natx (S : Sh) (k : Nat) (h : k < 3128) : S.get (k : Int) = S.now k := by
  unfold Sh.get
  rw [if_pos (by omega), Int.toNat_natCast]

theorem now_takeB (S : Sh) (b : Nat) (hb : b < 256) (k : Nat) (hk : k < 816 ∨ 820 ≤ k) : (takeB S b).now k = if 1080 + b * 8 ≤ k ∧ k < 1088 + b * 8 then 0 else S.now k := by
  unfold takeB cleanB
  rw [now_cleanTo _ b hb 8 (Nat.le_refl _), now_setB S b hb true k hk, show 1088 + b * 8 = 1080 + b * 8 + 8 by omega]

/-- The blocks that are free, rising. -/
def freeL (S : Sh) : Nat → Nat → List Nat
  | _, 0 => []
  | b, f + 1 => if bitB S b = true then freeL S (b + 1) f else b :: freeL S (b + 1) f

theorem freeL_congr (S T : Sh) (f : Nat) : ∀ b, (∀ c, b ≤ c → c < b + f → bitB T c = bitB S c) → freeL T b f = freeL S b f := by
  induction f with
  | zero => intro b _; rfl
  | succ f ih =>
    intro b h
    simp only [freeL]
    rw [h b (by omega) (by omega), ih (b + 1) (fun c h1 h2 => h c (by omega) (by omega))]
theorem freeL_len (S : Sh) (f : Nat) : ∀ b, (freeL S b f).length = freeFrom S b f := by
  induction f with
  | zero => intro b; rfl
  | succ f ih =>
    intro b
    simp only [freeL, freeFrom]
    cases h : bitB S b
    · simp [ih]; omega
    · simp [ih]
theorem freeL_mem (S : Sh) (f : Nat) : ∀ b, ∀ x ∈ freeL S b f, b ≤ x ∧ x < b + f ∧ bitB S x = false := by
  induction f with
  | zero => intro b x hx; cases hx
  | succ f ih =>
    intro b x hx
    simp only [freeL] at hx
    split at hx
    · have := ih (b + 1) x hx
      exact ⟨by omega, by omega, this.2.2⟩
    · rename_i h
      rcases List.mem_cons.1 hx with rfl | hx
      · exact ⟨by omega, by omega, by simpa using h⟩
      · have := ih (b + 1) x hx
        exact ⟨by omega, by omega, this.2.2⟩
theorem freeL_pair (S : Sh) (f : Nat) : ∀ b, (freeL S b f).Pairwise (· < ·) := by
  induction f with
  | zero => intro b; exact List.Pairwise.nil
  | succ f ih =>
    intro b
    simp only [freeL]
    split
    · exact ih (b + 1)
    · exact List.pairwise_cons.2 ⟨fun x hx => by have := (freeL_mem S f (b + 1) x hx).1; omega, ih (b + 1)⟩

/-- The blocks taken are the first free ones; their words are noughts; all words but theirs and the bits stay. -/
theorem takeFrom_more (f : Nat) : ∀ (S : Sh) (b n : Nat), 1 ≤ b → b + f ≤ 256 →
    (takeFrom f S b n).2 = (freeL S b f).take n ∧
    (∀ k, (k < 816 ∨ 820 ≤ k) → (takeFrom f S b n).1.now k = if ∃ x ∈ (takeFrom f S b n).2, 1080 + x * 8 ≤ k ∧ k < 1088 + x * 8 then 0 else S.now k) := by
  induction f with
  | zero =>
    intro S b n hb hf
    cases n <;> simp [takeFrom, freeL]
  | succ f ih =>
    intro S b n hb hf
    by_cases h0 : n = 0
    · subst h0
      rw [takeFrom_zero]
      simp
    · cases hbit : bitB S b with
      | true =>
        rw [takeFrom_used hbit (by omega)]
        obtain ⟨i1, i2⟩ := ih S (b + 1) n (by omega) (by omega)
        refine ⟨?_, i2⟩
        rw [i1]
        simp only [freeL]
        rw [if_pos hbit]
      | false =>
        rw [takeFrom_free hbit (by omega)]
        obtain ⟨i1, i2⟩ := ih (takeB S b) (b + 1) (n - 1) (by omega) (by omega)
        have hc : freeL (takeB S b) (b + 1) f = freeL S (b + 1) f := freeL_congr _ _ _ _ (fun c h1 h2 => by rw [bit_takeB S b (by omega) hb c (by omega), if_neg (by omega)])
        refine ⟨?_, fun k hk => ?_⟩
        · dsimp only
          rw [i1, hc]
          simp only [freeL]
          rw [if_neg (by simp [hbit])]
          obtain ⟨m, rfl⟩ : ∃ m, n = m + 1 := ⟨n - 1, by omega⟩
          rfl
        · dsimp only
          rw [i2 k hk, now_takeB S b (by omega) k hk]
          by_cases hx : ∃ x ∈ (takeFrom f (takeB S b) (b + 1) (n - 1)).2, 1080 + x * 8 ≤ k ∧ k < 1088 + x * 8
          · rw [if_pos hx, if_pos (by obtain ⟨x, h1, h2⟩ := hx; exact ⟨x, List.mem_cons_of_mem _ h1, h2⟩)]
          · rw [if_neg hx]
            by_cases hbk : 1080 + b * 8 ≤ k ∧ k < 1088 + b * 8
            · rw [if_pos hbk, if_pos ⟨b, List.mem_cons_self .., hbk⟩]
            · rw [if_neg hbk, if_neg (by
                rintro ⟨x, h1, h2⟩
                rcases List.mem_cons.1 h1 with rfl | h1
                · exact hbk h2
                · exact hx ⟨x, h1, h2⟩)]

theorem pair_take {l : List Nat} (h : l.Pairwise (· < ·)) (n : Nat) : (l.take n).Pairwise (· < ·) := h.sublist (List.take_sublist n l)
theorem pair_get {l : List Nat} (h : l.Pairwise (· < ·)) (a b : Nat) (hab : a < b) (hb : b < l.length) : l.getD a 0 < l.getD b 0 := by
  have := List.pairwise_iff_getElem.1 h a b (by omega) hb hab
  rw [List.getD_eq_getElem?_getD, List.getElem?_eq_getElem (by omega), List.getD_eq_getElem?_getD, List.getElem?_eq_getElem hb]
  exact this
theorem getD_in {l : List Nat} {a : Nat} (h : a < l.length) : l.getD a 0 ∈ l := by
  rw [List.getD_eq_getElem?_getD, List.getElem?_eq_getElem h]
  exact List.getElem_mem h

/-- All that is told of the blocks that Lay takes. -/
structure TookN (S T : Sh) (xs : List Nat) (n : Nat) : Prop where
  len : xs.length = n
  mem : ∀ x ∈ xs, 1 ≤ x ∧ x < 256 ∧ bitB S x = false
  pair : xs.Pairwise (· < ·)
  bits : ∀ c, c < 256 → bitB T c = (bitB S c || decide (c ∈ xs))
  zero : ∀ x ∈ xs, ∀ r : Nat, r < 8 → T.get (1080 + (x : Int) * 8 + (r : Int)) = 0
  out : ∀ j : Int, 820 ≤ j → (∀ x ∈ xs, j < 1080 + (x : Int) * 8 ∨ 1088 + (x : Int) * 8 ≤ j) → T.get j = S.get j
  free : xs = (freeL S 1 255).take n
  ok : S.Ok → T.Ok
  was : T.was.length ≤ S.was.length + 2295

theorem takeFrom_ok (f : Nat) : ∀ (S : Sh) (b n : Nat), S.Ok → (takeFrom f S b n).1.Ok := by
  induction f with
  | zero => intro S b n h; cases n <;> exact h
  | succ f ih =>
    intro S b n h
    cases n with
    | zero => exact h
    | succ n =>
      simp only [takeFrom]
      split
      · exact ih S _ _ h
      · exact ih _ _ _ (takeB_ok h b)

theorem tookN (S : Sh) (n : Nat) (hn : n ≤ freeN S) : TookN S (takeFrom 255 S 1 n).1 (takeFrom 255 S 1 n).2 n := by
  rw [freeN_from] at hn
  obtain ⟨h1, h2, h3, -, -, h6⟩ := takeFrom_law 255 S 1 n (by omega) (by omega) hn
  obtain ⟨m1, m2⟩ := takeFrom_more 255 S 1 n (by omega) (by omega)
  refine ⟨h1, fun x hx => ?_, ?_, h3, fun x hx r hr => ?_, fun j hj hx => ?_, m1, fun ho => takeFrom_ok 255 S 1 n ho, by omega⟩
  · have := h2 x hx
    exact ⟨this.1, by omega, this.2.2⟩
  · rw [m1]
    exact pair_take (freeL_pair S 255 1) n
  · have := h2 x hx
    have e : (1080 + (x : Int) * 8 + (r : Int)) = ((1080 + x * 8 + r : Nat) : Int) := by omega
    rw [e, get_natx _ _ (by omega), m2 _ (by omega), if_pos ⟨x, hx, by omega, by omega⟩]
  · by_cases hlt : j < 3128
    · have e : j = ((j.toNat : Nat) : Int) := by omega
      rw [e, get_natx _ _ (by omega), get_natx _ _ (by omega), m2 _ (by omega), if_neg (by
        rintro ⟨x, h1, h2⟩
        have := hx x h1
        omega)]
    · unfold Sh.get
      rw [if_neg (by omega), if_neg (by omega)]

/-- What Lay's sheet is, and its blocks. -/
noncomputable def layX (S : Sh) (n : Ino) : List Nat := (lay1T S n).2
noncomputable def layL (S : Sh) (n : Ino) : Int := listOf (layX S n) (need1 n) (more1 n)
noncomputable def layO (S : Sh) (n : Ino) : List Nat := (layX S n).take (need1 n)

theorem LaidQ.own {T : Sh} {at_ : Int} {n : Ino} {own own' : List Nat} {list : Int} (h : LaidQ T at_ n own list) (ho : ∀ a, a < need1 n → own'.getD a 0 = own.getD a 0) (hb : blOf n own' = blOf n own) : LaidQ T at_ n own' list :=
  ⟨h.tag, h.size, fun k hk => by rw [hb]; exact h.num k hk, h.lis, fun a ha r hr => by rw [ho a ha]; exact h.ent a ha r hr, fun h0 w hw => by rw [hb]; exact h.lst h0 w hw⟩

theorem LaidQ.congr {T T' : Sh} {at_ : Int} {n : Ino} {own : List Nat} {list : Int} (h : LaidQ T at_ n own list) (h1 : ∀ k : Nat, k < 8 → T'.get (at_ + (k : Int)) = T.get (at_ + (k : Int)))
    (h2 : ∀ a, a < need1 n → ∀ r : Nat, r < 8 → T'.get (1080 + ((own.getD a 0 : Nat) : Int) * 8 + (r : Int)) = T.get (1080 + ((own.getD a 0 : Nat) : Int) * 8 + (r : Int)))
    (h3 : list ≠ 0 → ∀ w : Nat, w < 8 → T'.get (1080 + list * 8 + (w : Int)) = T.get (1080 + list * 8 + (w : Int))) : LaidQ T' at_ n own list := by
  refine ⟨?_, ?_, fun k hk => ?_, ?_, fun a ha r hr => ?_, fun h0 w hw => ?_⟩
  · have := h1 0 (by omega)
    rw [show at_ + ((0 : Nat) : Int) = at_ by omega] at this
    rw [this, h.tag]
  · exact (h1 1 (by omega)).trans h.size
  · have := h1 (k + 2) (by omega)
    rw [show at_ + ((k + 2 : Nat) : Int) = at_ + 2 + (k : Int) by omega] at this
    rw [this, h.num k hk]
  · exact (h1 7 (by omega)).trans h.lis
  · rw [h2 a ha r hr, h.ent a ha r hr]
  · rw [h3 h0 w hw, h.lst h0 w hw]

/-- The facts of an inode that was laid. -/
structure LaidI (T : Sh) (i : Int) (n : Ino) (xs : List Nat) : Prop where
  laid : LaidQ T (824 + i * 8) n (xs.take (need1 n)) (listOf xs (need1 n) (more1 n))
  len : xs.length = need1 n + more1 n
  mem : ∀ x ∈ xs, 1 ≤ x ∧ x < 256
  pair : ApartTo xs xs.length

theorem apartTo_pair {l : List Nat} (h : l.Pairwise (· < ·)) : ApartTo l l.length := fun i j hij hj => by
  have := pair_get h i j hij hj
  omega

theorem take_getD (xs : List Nat) (q a : Nat) (h : a < q) : (xs.take q).getD a 0 = xs.getD a 0 := by
  rw [List.getD_eq_getElem?_getD, List.getElem?_take, if_pos h, List.getD_eq_getElem?_getD]
theorem blOf_take (n : Ino) (xs : List Nat) : blOf n (xs.take (need1 n)) = blOf n xs := by
  unfold blOf
  rw [List.take_take, Nat.min_self]

theorem LaidI.list {T : Sh} {i : Int} {n : Ino} {xs : List Nat} (h : LaidI T i n xs) : 0 ≤ listOf xs (need1 n) (more1 n) ∧ listOf xs (need1 n) (more1 n) < 256 ∧ (more1 n = 1 → listOf xs (need1 n) (more1 n) = ((xs.getD (need1 n) 0 : Nat) : Int) ∧ xs.getD (need1 n) 0 ∈ xs ∧ 0 < listOf xs (need1 n) (more1 n)) ∧ (more1 n ≠ 1 → listOf xs (need1 n) (more1 n) = 0) := by
  unfold listOf
  split
  · rename_i hm
    have hin : xs.getD (need1 n) 0 ∈ xs := getD_in (by have := h.len; omega)
    have := h.mem _ hin
    exact ⟨by omega, by omega, fun _ => ⟨rfl, hin, by omega⟩, fun hh => absurd hm hh⟩
  · rename_i hm
    exact ⟨by omega, by omega, fun hh => absurd hh hm, fun _ => rfl⟩

theorem LaidI.ownOK {T : Sh} {i : Int} {n : Ino} {xs : List Nat} (h : LaidI T i n xs) : OwnOK (xs.take (need1 n)) (need1 n) := by
  have hl := h.len
  refine ⟨fun a ha => ?_, fun a b hab hb => ?_⟩
  · rw [take_getD _ _ _ ha]
    exact (h.mem _ (getD_in (by omega))).2
  · rw [take_getD _ _ _ (by omega), take_getD _ _ _ hb]
    exact h.pair a b hab (by omega)

theorem LaidI.ne {T : Sh} {i : Int} {n : Ino} {xs : List Nat} (h : LaidI T i n xs) (a : Nat) (ha : a < need1 n) (h0 : listOf xs (need1 n) (more1 n) ≠ 0) : (((xs.take (need1 n)).getD a 0 : Nat) : Int) ≠ listOf xs (need1 n) (more1 n) := by
  obtain ⟨-, -, h3, h4⟩ := h.list
  by_cases hm : more1 n = 1
  · rw [(h3 hm).1, take_getD _ _ _ ha]
    have := h.pair a (need1 n) ha (by have := h.len; omega)
    omega
  · exact absurd (h4 hm) h0

open Classical in
theorem more1_one (n : Ino) : more1 n = 1 ↔ 5 < need1 n ∨ LongP n.bl := by
  unfold more1
  split
  · rename_i h; exact ⟨fun _ => h, fun _ => rfl⟩
  · rename_i h; exact ⟨fun e => by omega, fun e => absurd e h⟩

theorem longP_blOf {n : Ino} (hr : RightP n) (hl : n.bl.length = 13) {xs : List Nat} (hx : need1 n ≤ xs.length) (hpos : ∀ a, a < need1 n → 1 ≤ xs.getD a 0) : LongP (blOf n xs) ↔ 5 < need1 n ∨ LongP n.bl := by
  have h6 := need1_le hr
  unfold LongP
  constructor
  · rintro ⟨k, h1, h2, h3⟩
    rw [blOf_get hl xs hx k h2] at h3
    by_cases hk : k < need1 n
    · exact .inl (by omega)
    · rw [if_neg hk] at h3
      exact .inr ⟨k, h1, h2, h3⟩
  · rintro (h5 | ⟨k, h1, h2, h3⟩)
    · refine ⟨5, by omega, by omega, ?_⟩
      rw [blOf_get hl xs hx 5 (by omega), if_pos h5]
      have := hpos 5 h5
      omega
    · refine ⟨k, h1, h2, ?_⟩
      rw [blOf_get hl xs hx k h2]
      split
      · rename_i hk
        have := hpos k hk
        omega
      · exact h3

theorem lay1S_laid (S : Sh) (i : Int) (hi : 0 ≤ i ∧ i < 32) (n : Ino) (hr : RightP n) (hfree : need1 n + more1 n ≤ freeN S) : LaidI (lay1S S i n) i n (layX S n) := by
  have ht := tookN S _ hfree
  have hmem : ∀ x ∈ layX S n, 1 ≤ x ∧ x < 256 := fun x hx => ⟨(ht.mem x hx).1, (ht.mem x hx).2.1⟩
  have hlen : (layX S n).length = need1 n + more1 n := ht.len
  have hown : OwnOK (layX S n) (need1 n) := by
    refine ⟨fun a ha => (hmem _ (getD_in (by omega))).2, fun a b hab hb => ?_⟩
    have := pair_get ht.pair a b hab (by have := ht.len; omega)
    have e : (layX S n) = (takeFrom 255 S 1 (need1 n + more1 n)).2 := rfl
    rw [e]
    omega
  have hlist : 0 ≤ layL S n ∧ layL S n < 256 := by
    unfold layL listOf
    split
    · have := hmem _ (getD_in (l := layX S n) (a := need1 n) (by omega))
      omega
    · omega
  have hne : ∀ a, a < need1 n → layL S n ≠ 0 → (((layX S n).getD a 0 : Nat) : Int) ≠ layL S n := by
    intro a ha h0
    unfold layL listOf at h0 ⊢
    split
    · rename_i hm
      have := pair_get ht.pair a (need1 n) ha (by have := ht.len; omega)
      have e : (layX S n) = (takeFrom 255 S 1 (need1 n + more1 n)).2 := rfl
      rw [e]
      omega
    · rename_i hm
      rw [if_neg hm] at h0
      exact absurd rfl h0
  have hQ := lay1Q_laid (lay1T S n).1 (at_ := 824 + i * 8) (by omega) n (layX S n) hlist hown hne (fun a ha r hr => ht.zero _ (getD_in (by have := ht.len; omega)) r hr)
  refine ⟨?_, hlen, hmem, apartTo_pair ht.pair⟩
  exact LaidQ.own (own := layX S n) (own' := (layX S n).take (need1 n)) hQ (fun a ha => take_getD _ _ _ ha) (blOf_take n _)

/-- The words that Lay leaves as they are. -/
theorem lay1S_out (S : Sh) (i : Int) (hi : 0 ≤ i ∧ i < 32) (n : Ino) (hr : RightP n) (hfree : need1 n + more1 n ≤ freeN S) (j : Int) (h8 : 820 ≤ j) (hj : j < 824 + i * 8 ∨ 832 + i * 8 ≤ j) (hx : ∀ x ∈ layX S n, j < 1080 + (x : Int) * 8 ∨ 1088 + (x : Int) * 8 ≤ j) :
    (lay1S S i n).get j = S.get j := by
  have ht := tookN S _ hfree
  have hL := (lay1S_laid S i hi n hr hfree).list
  have e : (lay1S S i n).get j = (lay1T S n).1.get j := by
    refine lay1Q_out (lay1T S n).1 n (layX S n) (list := layL S n) j (by omega) (fun a ha => hx _ (getD_in (by have := (lay1S_laid S i hi n hr hfree).len; omega))) (fun h0 => ?_)
    by_cases hm : more1 n = 1
    · have h3 := hL.2.2.1 hm
      have e2 : layL S n = (((layX S n).getD (need1 n) 0 : Nat) : Int) := h3.1
      rw [e2]
      exact hx _ h3.2.1
    · exact absurd (hL.2.2.2 hm) h0
  rw [e]
  exact ht.out j h8 hx

/-- The bits behind Lay. -/
theorem lay1S_bits (S : Sh) (i : Int) (hi : 0 ≤ i ∧ i < 32) (n : Ino) (hr : RightP n) (hfree : need1 n + more1 n ≤ freeN S) (c : Nat) (hc : c < 256) : bitB (lay1S S i n) c = (bitB S c || decide (c ∈ layX S n)) := by
  have ht := tookN S _ hfree
  have hL := (lay1S_laid S i hi n hr hfree).list
  have hb := ht.bits c hc
  have e : (lay1S S i n).get ((816 + c / 64 : Nat) : Int) = (lay1T S n).1.get ((816 + c / 64 : Nat) : Int) :=
    lay1Q_out (lay1T S n).1 n (layX S n) (list := layL S n) _ (by omega) (fun a ha => by omega) (fun h0 => by have h1 : 0 ≤ layL S n := hL.1; omega)
  rw [get_natx _ _ (by omega), get_natx _ _ (by omega)] at e
  have e2 : bitB (lay1S S i n) c = bitB (lay1T S n).1 c := by unfold bitB; rw [e]
  rw [e2]
  exact hb

theorem apart_pair {l : List Nat} (h : l.Pairwise (· < ·)) : apartB l = true := (apartB_iff l).2 fun i j hij hj => by
  have := pair_get h i j hij hj
  omega

theorem LaidI.all {T : Sh} {i : Int} {n : Ino} {xs : List Nat} (h : LaidI T i n xs) : allOf (xs.take (need1 n)) (listOf xs (need1 n) (more1 n)) = xs := by
  obtain ⟨-, -, h3, h4⟩ := h.list
  have hl := h.len
  unfold allOf
  by_cases hm : more1 n = 1
  · obtain ⟨e, -, hp⟩ := h3 hm
    rw [if_pos hp, e, Int.toNat_natCast]
    have hlt : need1 n < xs.length := by omega
    rw [List.getD_eq_getElem?_getD, List.getElem?_eq_getElem hlt]
    show xs.take (need1 n) ++ [xs[need1 n]] = xs
    rw [← List.take_succ_eq_append_getElem hlt]
    exact List.take_of_length_le (by omega)
  · rw [h4 hm, if_neg (by omega)]
    have := more1_le n
    exact List.take_of_length_le (by omega)

/-- An inode that was laid is read. -/
theorem rd1_laid {T : Sh} {i : Int} (hi : 0 ≤ i ∧ i < 32) {n : Ino} {xs : List Nat} (h : LaidI T i n xs) (hr : RightP n) (hf : n.format = 1) (hl : n.bl.length = 13) : rd1 T i = some (n, xs) := by
  have hlen := h.len
  have hpos : ∀ a, a < need1 n → 1 ≤ (xs.take (need1 n)).getD a 0 := fun a ha => by
    rw [take_getD _ _ _ ha]
    exact (h.mem _ (getD_in (by omega))).1
  have htl : (xs.take (need1 n)).length = need1 n := by rw [List.length_take]; omega
  have hlong : listOf xs (need1 n) (more1 n) ≠ 0 ↔ LongP (blOf n (xs.take (need1 n))) := by
    rw [longP_blOf hr hl (by omega) hpos, ← more1_one]
    obtain ⟨-, -, h3, h4⟩ := h.list
    constructor
    · intro h0
      by_cases hm : more1 n = 1
      · exact hm
      · exact absurd (h4 hm) h0
    · intro hm
      have := (h3 hm).2.2
      omega
  have hr1 := rd_of_laid (at_ := 824 + i * 8) (by omega) h.laid ⟨h.list.1, h.list.2.1⟩ hr hf hl htl h.ownOK hpos hlong h.ne (by rw [h.all]; exact (apartB_iff _).2 h.pair)
  unfold rd1
  rw [if_neg (by omega), hr1, h.all]

theorem LaidI.congr {T T' : Sh} {i : Int} {n : Ino} {xs : List Nat} (h : LaidI T i n xs) (h1 : ∀ k : Nat, k < 8 → T'.get (824 + i * 8 + (k : Int)) = T.get (824 + i * 8 + (k : Int)))
    (h2 : ∀ x ∈ xs, ∀ r : Nat, r < 8 → T'.get (1080 + (x : Int) * 8 + (r : Int)) = T.get (1080 + (x : Int) * 8 + (r : Int))) : LaidI T' i n xs := by
  have hl := h.len
  refine ⟨h.laid.congr h1 (fun a ha r hr => ?_) (fun h0 w hw => ?_), h.len, h.mem, h.pair⟩
  · rw [take_getD _ _ _ ha]
    exact h2 _ (getD_in (by omega)) r hr
  · obtain ⟨-, -, h3, h4⟩ := h.list
    by_cases hm : more1 n = 1
    · rw [(h3 hm).1]
      exact h2 _ (h3 hm).2.1 w hw
    · exact absurd (h4 hm) h0

/-- Two inodes, one laid behind the other. -/
theorem both_laid (S : Sh) (i j : Int) (hi : 0 ≤ i ∧ i < 32) (hj : 0 ≤ j ∧ j < 32) (hij : i ≠ j) (a b : Ino) (ha : RightP a) (hb : RightP b) (h1 : need1 a + more1 a ≤ freeN S) (h2 : need1 b + more1 b ≤ freeN (lay1S S i a)) :
    LaidI (lay1S (lay1S S i a) j b) i a (layX S a) ∧ LaidI (lay1S (lay1S S i a) j b) j b (layX (lay1S S i a) b) ∧ ∀ x ∈ layX S a, ∀ y ∈ layX (lay1S S i a) b, x ≠ y := by
  have hA := lay1S_laid S i hi a ha h1
  have hB := lay1S_laid (lay1S S i a) j hj b hb h2
  have hap : ∀ x ∈ layX S a, ∀ y ∈ layX (lay1S S i a) b, x ≠ y := by
    intro x hx y hy e
    subst e
    have h3 := (tookN (lay1S S i a) _ h2).mem x hy
    have h4 := lay1S_bits S i hi a ha h1 x (hA.mem x hx).2
    rw [h3.2.2] at h4
    simp [hx] at h4
  refine ⟨hA.congr (fun k hk => ?_) (fun x hx r hr => ?_), hB, hap⟩
  · exact lay1S_out _ j hj b hb h2 _ (by omega) (by omega) (fun y hy => by omega)
  · exact lay1S_out _ j hj b hb h2 _ (by omega) (by omega) (fun y hy => by have := hap x hx y hy; omega)

end Go.Proofs.Ytlopdbhjdijlmaa

namespace Go.Proofs.Ytlopdbhjdijlmaa
open Go.ChangeShapes Go.WideShapes Go.ChangeAt Go.RowKit
set_option linter.unusedSimpArgs false
set_option linter.unusedVariables false

/-- Words of which four are given. -/
def row5 (f : Nat → Int) : List Int := (List.range 3128).map f

def part5 (a : Nat → Int) (i : Nat) (k : Nat) : Int := if 816 ≤ k ∧ k < 816 + i then a (k - 816) else 0
def part5' (a : Nat → Int) (i : Nat) (k : Nat) : Int := if 816 ≤ k ∧ k < 820 then a (k - 816) else if 1080 ≤ k ∧ k < i then 1 else 0

theorem part5_succ (a : Nat → Int) (k : Nat) (hk : k < 4) : upd (part5 a k) (816 + k) (a k) = part5 a (k + 1) := by
  funext j
  simp only [upd, part5]
  by_cases e : j = 816 + k
  · subst e
    rw [if_pos rfl, if_pos (by omega), Nat.add_sub_cancel_left]
  · rw [if_neg e]
    by_cases h : 816 ≤ j ∧ j < 816 + k
    · rw [if_pos h, if_pos (by omega)]
    · rw [if_neg h, if_neg (by omega)]

theorem row5_length (f : Nat → Int) : (row5 f).length = 3128 := by simp [row5]
theorem row5_get (f : Nat → Int) (j : Nat) (hj : j < 3128) : (row5 f)[j]? = some (f j) := by
  unfold row5
  rw [List.getElem?_map, List.getElem?_range hj]
  rfl

theorem holds_words {w : World} {B : Nat} {f g : Nat → Int} (h : Words w B 3128 f) (he : ∀ j, j < 3128 → f j = g j) : HoldsU w (.slice (some ⟨B, 0, none⟩) 3128 3128) (row5 g) := by
  refine ⟨some ⟨B, 0, none⟩, 3128, by rw [row5_length], (by intro h; cases h), by rw [row5_length]; omega, by unfold maxLen; omega, ?_⟩
  intro ad had j u hj
  cases had
  have hlt : j < 3128 := by
    have := (List.getElem?_eq_some_iff.1 hj).1
    simpa [u64s, row5_length] using this
  have hadd : (⟨B, 0, none⟩ : Addr).add j = ⟨B, j, none⟩ := by unfold Addr.add; split <;> simp_all
  rw [hadd, h.cell j hlt, he j hlt, ← hj]
  unfold u64s
  rw [List.getElem?_map, row5_get _ _ hlt]
  rfl

def row6 (a : Nat → Int) : List Int := row5 (part5 a 4)
def S6 (a : Nat → Int) : Sh := Sh.new (row6 a)

set_option maxRecDepth 20000 in
theorem sheet6_any {w : World} (a : Nat → Int) (ha : ∀ i, 0 ≤ a i ∧ a i < 18446744073709551616) :
    Calls Try.prog 18 #[.agg #[.int .u64 (a 0), .int .u64 (a 1), .int .u64 (a 2), .int .u64 (a 3)]] w fun e w' => ∃ p, e = .returned (.pointer (some ⟨p, 0, none⟩)) ∧ SheetAt w' p (grow nob w w') (Sh.new (row6 a)) ∧ Below w.heap.size w w' := by
  obtain ⟨i0, hi0, hz0, hz1, hz2⟩ := info_parts Try.infoU64
  have HWF : Hid (∀ z ∈ row6 a, 0 ≤ z ∧ z < 18446744073709551616) := by
    intro z hz
    obtain ⟨k, _, rfl⟩ := List.mem_map.1 hz
    unfold part5
    have := ha (k - 816)
    split
    · exact this
    · omega
  clear ha
  go_enter Try.func18, Try.ntmps18
  go_wp2_with (at_make; refine wpList_make_full _ rfl _ _ 75 rfl w.heap.size 37 i0 (.int .u64 0) 1 Try.underlying75 hi0 hz0 hz1 .i64 .i64 3128 3128 3128 rfl rfl rfl rfl (by rw [hz2]; omega) (by unfold maxLen; omega) (by simp) ?_)
  intro w1 hown1 hgr1
  go_wp2
  have hh := made_block hown1
  obtain ⟨B, hB⟩ : ∃ B, B = w.heap.size + 1 := ⟨_, rfl⟩
  obtain ⟨A, hA⟩ : ∃ A, A = w.heap.size := ⟨_, rfl⟩
  have hb0 : Below w.heap.size w w1 := ((Below.refl _ _).alloc (Nat.le_refl _) _).grown hgr1 (by simp) (by intro k hk; cases hk)
  have hbox : ∀ j, w1.cell? ⟨A, j, none⟩ = (#[Value.int .u64 (a 0), .int .u64 (a 1), .int .u64 (a 2), .int .u64 (a 3)] : Array Value)[j]? := fun j => by
    rw [hA, World.cell?_of_block (hgr1.block _ (by simp) (by intro h; cases h))]
    exact boxed_new w _ _ _ j
  rw [← hB] at hh
  have HW0 : Hid (Words w1 B 3128 (part5 a 0)) := ⟨_, hh, by simp [zeroRow], by omega, by unfold maxLen; omega, fun i hi => by
    simp only [part5]
    rw [if_neg (by omega)]
    have := zeroRow_get 3128 i hi
    simpa using this⟩
  have HB0 := Lib.hid hb0
  have HX0 := Lib.hid hbox
  have hAB : A ≠ B := by omega
  have HA := Lib.hid hA
  have HB := Lib.hid hB
  rw [← hB, ← hA]
  clear hown1 hgr1 hh hb0 hbox hA hB
  go_wp2
  go_loopg [4] 4 (fun g i wr => ∃ k : Nat, k + g = 4 ∧ i = .int .i64 k ∧ Hid (Words wr B 3128 (part5 a k)) ∧ Hid (∀ j, wr.cell? ⟨A, j, none⟩ = (#[Value.int .u64 (a 0), .int .u64 (a 1), .int .u64 (a 2), .int .u64 (a 3)] : Array Value)[j]?) ∧ Hid (Below w.heap.size w wr))
  case atStart => exact ⟨0, by omega, rfl, HW0, HX0, HB0⟩
  case round =>
    obtain ⟨k, hk, rfl, HW, HX, HBL⟩ := hrel
    by_cases hlt : k < 4
    · have hc : wr.cell? ⟨A, k, none⟩ = some (.int .u64 (a k)) := by
        rw [HX.out k]
        rcases (show k = 0 ∨ k = 1 ∨ k = 2 ∨ k = 3 by omega) with rfl | rfl | rfl | rfl <;> rfl
      have hd := HW.out.cell (816 + k) (by omega)
      have hf := HW.out.frozen (816 + k)
      go_wp2
      go_roundg (gk - 1)
      case measure => omega
      case rel =>
        refine ⟨k + 1, by omega, (by simp), ?_, ?_, ?_⟩
        · unfold Hid; rw [← part5_succ a k hlt]; exact HW.out.set _ _
        · intro j; rw [World.cell?_of_block (Below.heap_setCell _ _ _ _ (by simpa using hAB))]; exact HX.out j
        · exact HBL.out.setCell (by have := HB.out; show _ ≤ B; omega) _
    · obtain rfl : k = 4 := by omega
      go_wp2_with (go_at_call 30; refine (tx_new (holds_words HW.out (fun _ _ => rfl)) HWF.out).mono ?_; rintro e w2 ⟨p, rfl, hs, hb⟩)
      go_ret
      exact ⟨p, rfl, hs.mono (fun b h => by rcases h with h | h; exact h.elim; exact .inr ⟨by have := HBL.out.size; omega, h.2⟩) (fun b h => by rcases h with h | h; exact h.elim; exact h.2), HBL.out.trans (hb.mono HBL.out.size)⟩

theorem S6_now (a : Nat → Int) (k : Nat) (hk : k < 3128) : (S6 a).now k = part5 a 4 k := by
  unfold S6 row6
  simp only [Sh.new]
  rw [if_pos hk, List.getD_eq_getElem?_getD, row5_get _ _ hk]
  rfl
theorem S6_was (a : Nat → Int) : (S6 a).was.length = 0 := rfl

/-- No bit is set where the words are noughts. -/
theorem S6_bit0 (a : Nat → Int) (h : ∀ i, a i = 0) (b : Nat) (hb : b < 256) : bitB (S6 a) b = false := by
  unfold bitB
  rw [S6_now a _ (by omega)]
  have : part5 a 4 (816 + b / 64) = 0 := by
    unfold part5
    split
    · exact h _
    · rfl
  rw [this]
  simp

theorem freeFrom_all (S : Sh) (f : Nat) : ∀ b, (∀ c, b ≤ c → c < b + f → bitB S c = false) → freeFrom S b f = f := by
  induction f with
  | zero => intro b _; rfl
  | succ f ih =>
    intro b h
    simp only [freeFrom]
    rw [if_pos (h b (by omega) (by omega)), ih (b + 1) (fun c h1 h2 => h c (by omega) (by omega))]
    omega

theorem S6_free0 (a : Nat → Int) (h : ∀ i, a i = 0) : freeN (S6 a) = 255 := by
  rw [freeN_from]
  exact freeFrom_all _ _ _ (fun c h1 h2 => S6_bit0 a h c (by omega))

/-- How many are free behind Lay. -/
theorem lay1S_free (S : Sh) (i : Int) (hi : 0 ≤ i ∧ i < 32) (n : Ino) (hr : RightP n) (hfree : need1 n + more1 n ≤ freeN S) : freeN (lay1S S i n) + (need1 n + more1 n) = freeN S := by
  have ht := tookN S _ hfree
  have e1 : freeFrom (lay1S S i n) 1 255 = freeFrom (takeFrom 255 S 1 (need1 n + more1 n)).1 1 255 := freeFrom_congr _ _ 255 1 (fun c h1 h2 => by
    rw [lay1S_bits S i hi n hr hfree c (by omega)]
    exact (ht.bits c (by omega)).symm)
  rw [freeN_from] at hfree
  have hl := (takeFrom_law 255 S 1 (need1 n + more1 n) (by omega) (by omega) hfree).2.2.2.2.1
  have e2 := freeN_from (lay1S S i n)
  have e3 := freeN_from S
  rw [e2, e3, e1]
  exact hl

theorem need_le {n : Ino} (hr : RightP n) : need1 n + more1 n ≤ 7 := by
  have := need1_le hr
  have := more1_le n
  omega

theorem lay1S_ok (S : Sh) (h : S.Ok) (i : Int) (hi : 0 ≤ i ∧ i < 32) (n : Ino) (hr : RightP n) (hl : n.bl.length = 13) (hfree : need1 n + more1 n ≤ freeN S) : (lay1S S i n).was.length ≤ S.was.length + 2400 := by
  have ht := tookN S _ hfree
  have e1 : (lay1T S n).1.was.length ≤ S.was.length + 2295 := ht.was
  have hpw := Sh.put_was_le
  have hnum : ∀ (T : Sh) (at_ : Int) (l : List Int) (list : Int) (m : Nat), (numbersTo T at_ l list m).was.length ≤ T.was.length + m := by
    intro T at_ l list m
    induction m with
    | zero => simp [numbersTo]
    | succ m ih =>
      simp only [numbersTo]
      have := numberAt_was (numbersTo T at_ l list m) at_ list m (l.getD m 0)
      omega
  have hent : ∀ (T : Sh) (own : List Nat) (l : List En) (m : Nat), (entriesTo T own l m).was.length ≤ T.was.length + 2 * m := by
    intro T own l m
    induction m with
    | zero => simp [entriesTo]
    | succ m ih =>
      simp only [entriesTo]
      have := entryAt_was (entriesTo T own l m) own m (l.getD m default)
      omega
  have h24 := hr.ents
  unfold lay1S lay1P entriesS numbersS
  refine Nat.le_trans (hent _ _ _ _) ?_
  have h1 := hpw (numbersTo (((lay1T S n).1.put (824 + i * 8) (tagW n)).put (824 + i * 8 + 1) n.size) (824 + i * 8) (blOf n (lay1T S n).2) (listOf (lay1T S n).2 (need1 n) (more1 n)) 13) (824 + i * 8 + 7) (listOf (lay1T S n).2 (need1 n) (more1 n))
  have h2 := hnum (((lay1T S n).1.put (824 + i * 8) (tagW n)).put (824 + i * 8 + 1) n.size) (824 + i * 8) (blOf n (lay1T S n).2) (listOf (lay1T S n).2 (need1 n) (more1 n)) 13
  have h3 := hpw ((lay1T S n).1.put (824 + i * 8) (tagW n)) (824 + i * 8 + 1) n.size
  have h4 := hpw (lay1T S n).1 (824 + i * 8) (tagW n)
  omega
end Go.Proofs.Ytlopdbhjdijlmaa
