/-
  From a walk that ends in 'true' and leaves all memory below as it was, to the row: general lemmas (no function of the program).
  Arguments, opened: a slice of words. General lemmas (no function of the program).
  Arguments, opened: slices of structs whose fields take one cell each. General lemmas (no function of the program).
-/
import Derived.Test.YtlopdbhjdijlmaaQLib
import Derived.SizedLaws
import Derived.ChangeMaps5
import Derived.Test.YtlopdbhjdijlmaaQTxM
import Derived.Deep.Slices
import Derived.Deep.Fields
import Derived.ChangeSame

namespace Go.Proofs.Ytlopdbhjdijlmaa
open Go.ChangeShapes Go.WideShapes Go.ChangeAt Go.RowKit

theorem Try.own : ownKnob Try.prog.godebug = none := by kernel_rfl
theorem Try.laidOut : laidOutB Try.prog = true := by kernel_rfl

theorem trodAll_below {H : Type} {enc : TypeId × Value → H} {P : Program} (hl : laidOutB P = true) {W W' : World} (hB : Below W.heap.size W W') :
    ∀ (ts : List TypeId) (vs : List Value) (ds : List (DataW H)) (ps : List MemPlace), (∀ t ∈ ts, P.readableRec t = true ∧ t < P.types.size) →
      (∀ x ∈ ps, x.block < W.heap.size) → DataW.TrodAll enc P W 0 (fun _ => true) true ts vs ds ps →
      DataW.TrodAll enc P W' 0 (fun b => decide (b < W.heap.size)) true ts vs ds ps
  | [], [], [], _, _, _, h => h
  | t :: ts, v :: vs, d :: ds, ps, hr, hlt, h => by
    obtain ⟨p, q, h1, h2, rfl⟩ := h
    exact ⟨p, q, Below.trod hl (hr t (by simp)).1 (hr t (by simp)).2 h1 hB (fun x hx => hlt x (by simp [hx])),
      trodAll_below hl hB ts vs ds q (fun t ht => hr t (by simp [ht])) (fun x hx => hlt x (by simp [hx])) h2, rfl⟩
  | [], [], _ :: _, _, _, _, h => h.elim
  | [], _ :: _, _, _, _, _, h => h.elim
  | _ :: _, [], _, _, _, _, h => h.elim
  | _ :: _, _ :: _, [], _, _, _, h => h.elim

/-- The row's post of a law: it answers true; the arguments read as they did; nothing else has turned. -/
theorem post_law {H : Type} {enc : TypeId × Value → H} {P : Program} {fn : Func} {s : ChangeSpec} {W W' : World} {args : Array Value} {ds gs : List (DataW H)} {before : List MemPlace} {bt : TypeId}
    (hl : laidOutB P = true) (hr : ∀ t ∈ fn.params.toList, P.readableRec t = true ∧ t < P.types.size) (hres : fn.resultTypes = #[bt]) (hbu : P.underlying bt = some .bool)
    (hvars : s.vars = []) (hs : s.fn H (ds ++ gs) = { results := [.lit (.bool true)], args := ds })
    (hW : DataW.Whole enc P fn.params.toList s.vars false W args.toList ds gs before) (hB : Below W.heap.size W W') :
    s.post enc P fn false true false false W args (.bool true) W' := by
  have hW0 := hW
  have hlt : ∀ x ∈ before, x.block < W.heap.size := fun x hx => hW.lt x hx
  obtain ⟨p, q, hA, hV, rfl, hfz, hnd⟩ := hW
  refine ⟨ds, gs, p ++ q, [] ++ [], p, [], hW0, ?_, ?_, ?_, hB.frame _, fun h => by cases h⟩
  · rw [hs, hres]
    exact trodAll_cons_mk (shut_bool hbu _) trodAll_mk0
  · rw [hs]
    exact trodAll_below hl hB _ _ _ _ hr (fun x hx => hlt x (by simp [hx])) hA
  · rw [hs, hvars]
    rfl

theorem readable_all {P : Program} {ts : List TypeId} (h : ts.all (fun t => P.readableRec t && decide (t < P.types.size)) = true) : ∀ t ∈ ts, P.readableRec t = true ∧ t < P.types.size := by
  intro t ht
  have := List.all_eq_true.1 h t ht
  simpa using this

/-- An array of whole numbers, by value. -/
theorem open_arr_ints {H : Type} {enc : TypeId × Value → H} {P : Program} {W : World} {base : Nat} {sp : Nat → Bool} {held : Bool} {t e : TypeId} {n : Nat} {k : IntKind} {v : Value} {d : DataW H} {p : List MemPlace}
    (ht : P.underlying t = some (.array n e)) (he : P.underlying e = some (.int k)) (hce : P.cellsOf e = 1) (hct : P.cellsOf t = n)
    (hok : Value.okWide P W .any base t v) (h : DataW.Trod enc P W 0 sp held t v d p) :
    ∃ zs : List Int, v = .agg (zs.map (Value.int k)).toArray ∧ zs.length = n ∧ ∀ z ∈ zs, (Lit.int k z).wf = true := by
  unfold Value.okWide at hok
  rw [ht] at hok
  obtain ⟨cs, rfl, hsz, _⟩ := hok
  obtain ⟨fuel, hf⟩ := h
  obtain ⟨xs, m, rfl, _, hlen, hxs, hall⟩ := DataW.trod_array ht hf
  have hn : cs.size = n := by rw [hsz, hct]
  have each : ∀ i (hi : i < cs.toList.length), ∃ z, cs.toList[i] = .int k z ∧ (Lit.int k z).wf = true := by
    intro i hi
    have hi' : i < n := by simpa [hn] using hi
    have h1 := hall i hi'
    simp only [hce, Nat.mul_one, Value.cells] at h1
    have hx : xs[i]? = some xs[i] := List.getElem?_eq_getElem (by omega)
    rw [hx, List.drop_eq_getElem_cons hi, List.take_succ_cons, List.take_zero] at h1
    cases m with
    | zero => simp [DataW.trod] at h1
    | succ m =>
      unfold DataW.trod at h1
      rw [he] at h1
      generalize cs.toList[i] = c at h1 ⊢
      cases c <;> simp at h1
      obtain ⟨⟨rfl, hw⟩, _⟩ := h1
      exact ⟨_, rfl, hw⟩
  have build : ∀ (l : List Value), (∀ i (hi : i < l.length), ∃ z, l[i] = .int k z ∧ (Lit.int k z).wf = true) → ∃ zs : List Int, l = zs.map (Value.int k) ∧ ∀ z ∈ zs, (Lit.int k z).wf = true := by
    intro l
    induction l with
    | nil => intro _; exact ⟨[], rfl, by simp⟩
    | cons c l ih =>
      intro hl
      obtain ⟨z, hz, hw⟩ := hl 0 (by simp)
      obtain ⟨zs, hzs, hws⟩ := ih (fun i hi => hl (i + 1) (by simpa using hi))
      simp only [List.getElem_cons_zero] at hz
      exact ⟨z :: zs, by rw [hz, hzs]; rfl, by intro y hy; rcases List.mem_cons.1 hy with rfl | hy; exact hw; exact hws y hy⟩
  obtain ⟨zs, hzs, hws⟩ := build cs.toList each
  refine ⟨zs, ?_, ?_, hws⟩
  · rw [← hzs]
  · have := congrArg List.length hzs
    simp only [Array.length_toList, List.length_map] at this
    omega
end Go.Proofs.Ytlopdbhjdijlmaa

namespace Go.Proofs.Ytlopdbhjdijlmaa
open Go.ChangeShapes Go.WideShapes Go.ChangeAt Go.RowKit
set_option linter.unusedSimpArgs false
set_option linter.unusedVariables false

theorem cellsU64 : Try.prog.cellsOf 37 = 1 := by kernel_rfl

theorem wf_u64 {z : Int} (h : (Lit.int .u64 z).wf = true) : 0 ≤ z ∧ z < 18446744073709551616 := by
  have := h
  simp only [Lit.wf, IntKind.min, IntKind.max, IntKind.signed, IntKind.bits, Bool.and_eq_true, decide_eq_true_eq] at this
  simp at this
  omega

theorem wf_u8 {z : Int} (h : (Lit.int .u8 z).wf = true) : 0 ≤ z ∧ z < 256 := by
  have := h
  simp only [Lit.wf, IntKind.min, IntKind.max, IntKind.signed, IntKind.bits, Bool.and_eq_true, decide_eq_true_eq] at this
  simp at this
  omega

theorem wf_i64 {z : Int} (h : (Lit.int .i64 z).wf = true) : -9223372036854775808 ≤ z ∧ z ≤ 9223372036854775807 := by
  have := h
  simp only [Lit.wf, IntKind.min, IntKind.max, IntKind.signed, IntKind.bits, Bool.and_eq_true, decide_eq_true_eq] at this
  simp at this
  omega

set_option maxRecDepth 100000 in
theorem open_u64s {H : Type} {enc : TypeId × Value → H} {W : World} {r : Reach} {base b0 : Nat} {sp : Nat → Bool} {held : Bool} {v : Value} {d : DataW H} {p : List MemPlace}
    (hok : Value.okWide Try.prog W r b0 75 v) (h : DataW.Trod enc Try.prog W base sp held 75 v d p) :
    ∃ xs : List Int, HoldsU W v xs ∧ ∀ z ∈ xs, 0 ≤ z ∧ z < 18446744073709551616 := by
  obtain ⟨a0, len, cap, rfl⟩ := okWide_slice Try.underlying75 hok
  obtain ⟨fuel, hf⟩ := h
  rcases open_ints Try.underlying75 Try.underlying37 cellsU64 hf with ⟨hcs, _⟩ | ⟨a, len', cap', zs, hcs, _, hl, hm, hz, _, hcell, hwz⟩
  · simp [Value.cells] at hcs
    obtain ⟨rfl, rfl, rfl⟩ := hcs
    exact ⟨[], HoldsU.nil _, by simp⟩
  · simp [Value.cells] at hcs
    obtain ⟨rfl, rfl, rfl⟩ := hcs
    have hlz : len ≤ zs.length := by rw [hz]; split <;> omega
    have e : (zs.take len).length = len := by simp; omega
    refine ⟨zs.take len, ⟨some a, cap, by rw [e], (by intro h; cases h), by rw [e]; exact hl, hm, ?_⟩, fun z hz2 => wf_u64 (hwz z (List.mem_of_mem_take hz2))⟩
    intro ad ha j u hu
    simp only [Option.some.injEq] at ha
    subst ha
    have hj : j < len := by
      have := (List.getElem?_eq_some_iff.1 hu).1
      simp [u64s] at this
      omega
    rw [hcell j (by omega), ← hu]
    have hj2 : j < zs.length := by omega
    simp [u64s, hj, hj2, List.getElem?_take]

theorem toNats (xs : List Int) (h : ∀ z ∈ xs, 0 ≤ z ∧ z < 18446744073709551616) : ∃ l : List Nat, xs = l.map (fun n : Nat => (n : Int)) ∧ ∀ x ∈ l, x < 18446744073709551616 := by
  refine ⟨xs.map Int.toNat, ?_, ?_⟩
  · rw [List.map_map]
    apply List.ext_getElem (by simp)
    intro i h1 h2
    have := h _ (List.getElem_mem h1)
    simp
    omega
  · intro x hx
    obtain ⟨z, hz, rfl⟩ := List.mem_map.1 hx
    have := h z hz
    omega
end Go.Proofs.Ytlopdbhjdijlmaa

namespace Go.Proofs.Ytlopdbhjdijlmaa
open Go.ChangeShapes Go.WideShapes Go.ChangeAt Go.RowKit Go.Deep
set_option linter.unusedSimpArgs false
set_option linter.unusedVariables false

theorem list_of {α : Type} (d : α) {P : Nat → α → Prop} : ∀ n : Nat, (∀ i, i < n → ∃ x, P i x) → ∃ l : List α, l.length = n ∧ ∀ i, i < n → P i (l.getD i d)
  | 0, _ => ⟨[], rfl, fun i h => by omega⟩
  | n + 1, h => by
    obtain ⟨l, hl, hp⟩ := list_of d n (fun i hi => h i (by omega))
    obtain ⟨x, hx⟩ := h n (by omega)
    refine ⟨l ++ [x], by simp [hl], fun i hi => ?_⟩
    by_cases e : i = n
    · subst e
      rw [List.getD_eq_getElem?_getD, List.getElem?_append_right (by omega), hl]
      simpa using hx
    · have := hp i (by omega)
      rw [List.getD_eq_getElem?_getD] at this ⊢
      rw [List.getElem?_append_left (by omega)]
      exact this

theorem spot_none {w : World} {a : Addr} {v : Value} (h : w.cell? a = some v) : a = ⟨a.block, a.off, none⟩ := by
  obtain ⟨b, o, s⟩ := a
  unfold World.cell? at h
  simp only at h
  split at h
  · split at h
    · cases h
    · cases s with
      | none => rfl
      | some x => simp at *
  · cases h

section
variable {H : Type} {enc : TypeId × Value → H} {P : Program} {w : World} {base : Nat} {sp : Nat → Bool} {held : Bool}

/-- A slice of structs, cell by cell. -/
theorem open_rows {t e : TypeId} {fs : Array Field} {r : Reach} {b0 : Nat} {v : Value} {d : DataW H} {p : List MemPlace} (ht : P.underlying t = some (.slice e)) (he : P.underlying e = some (.struct fs))
    (hone : oneCellFields P fs = true) (hC : P.cellsOf e = fs.size) (h0 : 0 < fs.size) (hok : Value.okWide P w r b0 t v) (h : DataW.Trod enc P w base sp held t v d p) :
    ∃ ao len cap, v = .slice ao len cap ∧ len ≤ cap ∧ cap ≤ maxLen ∧ (ao = none → len = 0 ∧ cap = 0) ∧
      ∀ i, i < len → ∃ g o, ao = some ⟨g, o, none⟩ ∧ ∀ j f, fs[j]? = some f → ∃ c y n, w.cell? ⟨g, o + i * fs.size + j, none⟩ = some c ∧ DataW.trod enc P w base sp held n f.type [c] = some y := by
  obtain ⟨a0, len0, cap0, rfl⟩ := okWide_slice ht hok
  obtain ⟨fuel, hf⟩ := h
  rcases open_slice ht hf with ⟨hcs, -⟩ | ⟨a, len, cap, m, n, D, Pl, hcs, -, hl, hm, hmm, -, hi⟩
  · simp [Value.cells] at hcs
    obtain ⟨rfl, rfl, rfl⟩ := hcs
    exact ⟨none, 0, 0, rfl, Nat.le_refl _, Nat.zero_le _, fun _ => ⟨rfl, rfl⟩, fun i h => by omega⟩
  · simp [Value.cells] at hcs
    obtain ⟨rfl, rfl, rfl⟩ := hcs
    refine ⟨some a, len0, cap0, rfl, hl, hm, (fun h => by cases h), fun i hil => ?_⟩
    have hlm : len0 ≤ m := by rw [hmm]; split <;> omega
    obtain ⟨cs', hc, ht'⟩ := hi i (by omega)
    rw [hC] at hc
    obtain ⟨ys, n', -, -, hlen, hyl, hfld⟩ := DataW.trod_struct he ht'
    obtain ⟨_, hcl, hat⟩ := World.cells?_some hc
    have hspot : ∀ j, j < fs.size → w.cell? ⟨a.block, a.off + i * fs.size + j, none⟩ = cs'[j]? ∧ a = ⟨a.block, a.off, none⟩ := by
      intro j hj
      have h1 := hat j hj
      rw [add_add] at h1
      have hv : cs'[j]? = some (cs'[j]'(by omega)) := List.getElem?_eq_getElem (by omega)
      rw [hv] at h1 ⊢
      have h2 := spot_none h1
      have ha : a = ⟨a.block, a.off, none⟩ := by
        have h00 := hat 0 h0
        have hv0 : cs'[0]? = some (cs'[0]'(by omega)) := List.getElem?_eq_getElem (by omega)
        rw [hv0] at h00
        have h3 := spot_none h00
        rw [add_add] at h3
        by_cases e : i * fs.size + 0 = 0
        · rw [e] at h3
          exact h3
        · -- the slice's own first cell
          obtain ⟨cs2, hc2, -⟩ := hi 0 (by omega)
          rw [hC] at hc2
          obtain ⟨_, hcl2, hat2⟩ := World.cells?_some hc2
          have h4 := hat2 0 h0
          have hv4 : cs2[0]? = some (cs2[0]'(by omega)) := List.getElem?_eq_getElem (by omega)
          rw [hv4, Nat.zero_mul] at h4
          exact spot_none h4
      refine ⟨?_, ha⟩
      rw [← h1]
      obtain ⟨ab, aoff, spt⟩ := a
      simp only [Addr.mk.injEq] at ha
      obtain ⟨-, -, rfl⟩ := ha
      congr 1
      unfold Addr.add
      split
      · rename_i e
        simp only [Addr.mk.injEq, and_true, true_and]
        omega
      · simp only [Addr.mk.injEq, and_true, true_and]
        omega
    refine ⟨a.block, a.off, congrArg some (hspot 0 h0).2, fun j f hj => ?_⟩
    obtain ⟨ho, hk⟩ := hone_of hone j f hj
    have hjl : j < fs.size := (Array.getElem?_eq_some_iff.1 hj).1
    have hv : cs'[j]? = some (cs'[j]'(by omega)) := List.getElem?_eq_getElem (by omega)
    have h1 := hfld j f hj
    rw [ho, hk] at h1
    have hone' : (cs'.drop j).take 1 = [cs'[j]'(by omega)] := by
      rw [List.drop_eq_getElem_cons (by omega)]
      rfl
    rw [hone'] at h1
    have hys : ys[j]? = some (ys[j]'(by omega)) := List.getElem?_eq_getElem (by omega)
    exact ⟨_, _, n', by rw [(hspot j hjl).1, hv], h1.trans hys⟩

/-- A cell that reads as a whole number. -/
theorem int_of {t : TypeId} {k : IntKind} {n : Nat} {c : Value} {y : DataW H × List MemPlace} (ht : P.underlying t = some (.int k)) (h : DataW.trod enc P w base sp held n t [c] = some y) : ∃ z, c = .int k z ∧ (Lit.int k z).wf = true := by
  obtain ⟨z, hz, -, hw⟩ := DataW.trod_int ht h
  exact ⟨z, by simpa using hz, hw⟩

theorem string_of {t : TypeId} {n : Nat} {c : Value} {y : DataW H × List MemPlace} (ht : P.underlying t = some .string) (h : DataW.trod enc P w base sp held n t [c] = some y) : ∃ s : ByteArray, c = .string s ∧ s.size ≤ maxLen := by
  obtain ⟨s, hs, -, hw⟩ := DataW.trod_string ht h
  exact ⟨s, by simpa using hs, hw⟩
end
end Go.Proofs.Ytlopdbhjdijlmaa
