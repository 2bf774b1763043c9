/-
  Behind a crash each word is as it was stored last, or as it lasted: plain.
-/
import Derived.Test.YtfpnmphmngdkdaaPmemLastsM
namespace Go.Proofs.Ytfpnmphmngdkdaa
set_option linter.unusedVariables false

/-- A memory of 50 words, as two lists tell it; nothing is flushed and not fenced. -/
structure Either (U : Pm) (last now : List Int) : Prop where
  still : U.Still 50
  ok : U.Ok
  ll : last.length = 50
  ln : now.length = 50
  now : ∀ k, k < 50 → U.now k = now.getD k 0
  last : ∀ k, k < 50 → U.last k = last.getD k 0
  fl : ∀ k, U.fl k = none

theorem Either.new : Either (Pm.new (List.replicate 50 0)) (List.replicate 50 0) (List.replicate 50 0) :=
  ⟨Pm.Still.new 50 (by omega), Pm.Ok.new (fun z hz => by rw [(List.mem_replicate.1 hz).2]; omega), List.length_replicate, List.length_replicate, fun _ _ => rfl, fun _ _ => rfl, fun _ => rfl⟩

theorem getD_set (l : List Int) (i k : Nat) (v : Int) (hi : i < l.length) : (l.set i v).getD k 0 = if k = i then v else l.getD k 0 := by
  rw [List.getD_eq_getElem?_getD, List.getD_eq_getElem?_getD, List.getElem?_set]
  by_cases e : i = k
  · subst e
    simp [hi]
  · rw [if_neg e, if_neg (fun h => e h.symm)]

theorem Either.store {U : Pm} {last now : List Int} (h : Either U last now) (i v : Int) (h0 : 0 ≤ v) (h1 : v < 18446744073709551616) (hm : U.may i = 0) : Either (U.store i v) last (now.set i.toNat v) := by
  have hi := Pm.may_ok hm
  have hn := h.still.n
  have hlt : i.toNat < 50 := by omega
  have e : U.store i v = (U.put i.toNat v).deed := by unfold Pm.store; rw [if_pos hm]
  refine ⟨h.still.store i v, h.ok.store i v h0 h1, h.ll, by rw [List.length_set]; exact h.ln, fun k hk => ?_, fun k hk => ?_, fun k => ?_⟩
  · rw [e, getD_set _ _ _ _ (by rw [h.ln]; exact hlt)]
    show upd U.now i.toNat v k = _
    unfold upd
    split
    · rfl
    · exact h.now k hk
  · rw [← h.last k hk, e]
    show ((updO U.old i.toNat (if U.last i.toNat = v then none else some (U.last i.toNat)) k).getD (upd U.now i.toNat v k)) = U.last k
    unfold updO upd
    by_cases ek : k = i.toNat
    · subst ek
      rw [if_pos rfl, if_pos rfl]
      split
      · rename_i e2
        rw [e2]
        rfl
      · rfl
    · rw [if_neg ek, if_neg ek]
      rfl
  · rw [e]
    show updO U.fl i.toNat none k = none
    unfold updO
    split
    · rfl
    · exact h.fl k

/-- The first j lines flushed. -/
structure Cov (U V : Pm) (j : Nat) : Prop where
  still : V.Still 50
  ok : V.Ok
  now : V.now = U.now
  old : V.old = U.old
  fl : ∀ i, i < 8 * j → i < 50 → (V.old i).isSome = true → (V.fl i).isSome = true

theorem Cov.start {U : Pm} (h : U.Still 50) (hok : U.Ok) : Cov U U 0 := ⟨h, hok, rfl, rfl, fun i hi => by omega⟩

theorem Cov.step {U V : Pm} {j : Nat} (h : Cov U V j) (hj : 8 * j < 50) : Cov U (V.flush ((8 * j : Nat) : Int)) (j + 1) := by
  have hm := h.still.may_in (8 * j) hj
  have hn := h.still.n
  have e : V.flush ((8 * j : Nat) : Int) = (V.flushTo ((8 * j) / 8 * 8) (min ((8 * j) / 8 * 8 + 8) V.n)).deed := by
    unfold Pm.flush
    rw [if_pos hm]
    rfl
  refine ⟨h.still.flush _, h.ok.flush _, ?_, ?_, fun i hi hi2 ho => ?_⟩
  · rw [e]; exact h.now
  · rw [e]; exact h.old
  · rw [e] at ho ⊢
    have ho2 : (V.old i).isSome = true := ho
    show ((if (8 * j) / 8 * 8 ≤ i ∧ i < min ((8 * j) / 8 * 8 + 8) V.n ∧ (V.old i).isSome = true then some (V.now i) else V.fl i) : Option Int).isSome = true
    by_cases hc : i < 8 * j
    · split
      · rfl
      · exact h.fl i hc hi2 ho2
    · rw [if_pos ⟨by omega, by omega, ho2⟩]
      rfl

theorem Cov.fence {U V : Pm} {last now : List Int} (hE : Either U last now) (h : Cov U V 7) : Either V.fence now now := by
  have hg := h.still.gone
  have e : V.fence = V.settle.deed := by unfold Pm.fence; rw [hg]; rfl
  have hold : ∀ k, V.fence.old k = none := by
    intro k
    rw [e]
    show (if (V.fl k).isSome = true then none else V.old k) = none
    cases ho : V.old k with
    | none => simp
    | some x =>
      have hk := (h.ok.old k x ho).1
      rw [h.still.n] at hk
      rw [if_pos (h.fl k (by omega) hk (by rw [ho]; rfl))]
  have hnow : ∀ k, k < 50 → V.fence.now k = now.getD k 0 := by
    intro k hk
    rw [e]
    show V.now k = _
    rw [h.now]
    exact hE.now k hk
  refine ⟨h.still.fence, h.ok.fence, hE.ln, hE.ln, hnow, fun k hk => ?_, fun k => ?_⟩
  · unfold Pm.last
    rw [hold k]
    exact hnow k hk
  · rw [e]
    rfl

/-- Behind a crash. -/
theorem Either.crash {U : Pm} {last now : List Int} (h : Either U last now) (keep : List Nat) (k : Nat) (hk : k < 50) : (U.crash keep).now k = last.getD k 0 ∨ (U.crash keep).now k = now.getD k 0 := by
  rw [Pm.crash_now h.ok, ← h.last k hk, ← h.now k hk]
  split
  · exact .inl rfl
  · exact .inr rfl

theorem crash_twice (U : Pm) (hok : U.Ok) (keep keep2 : List Nat) (k : Nat) : ((U.crash keep).crash keep2).now k = (U.crash keep).now k := by
  rw [Pm.crash_now (hok.crash keep)]
  rw [if_neg (fun h => by cases h.1)]

theorem Pm.Still.load {U : Pm} {n : Nat} (h : U.Still n) (k : Nat) (hk : k < n) : U.load (k : Int) = U.now k := by
  unfold Pm.load
  rw [if_pos (h.may_in k hk)]
  rfl
end Go.Proofs.Ytfpnmphmngdkdaa
