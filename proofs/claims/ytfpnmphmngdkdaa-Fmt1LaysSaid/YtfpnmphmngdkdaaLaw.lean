/-
  From a walk that ends in 'true' and leaves all memory below as it was, to the row: general lemmas (no function of the program).
-/
import Derived.Test.YtfpnmphmngdkdaaLib
import Derived.SizedLaws
import Derived.ChangeMaps5
namespace Go.Proofs.Ytfpnmphmngdkdaa
open Go.ChangeShapes Go.WideShapes Go.ChangeAt Go.RowKit

theorem Try.own : ownKnob Try.prog.godebug = none := by kernel_rfl
theorem Try.laidOut : laidOutB Try.prog = true := by kernel_rfl

theorem trodAll_below {H : Type} {enc : TypeId × Value → H} {P : Program} (hl : laidOutB P = true) {W W' : World} (hB : Below W.heap.size W W') :
    ∀ (ts : List TypeId) (vs : List Value) (ds : List (DataW H)) (ps : List MemPlace), (∀ t ∈ ts, P.readableRec t = true ∧ t < P.types.size) →
      (∀ x ∈ ps, x.block < W.heap.size) → DataW.TrodAll enc P W 0 (fun _ => true) true ts vs ds ps →
      DataW.TrodAll enc P W' 0 (fun b => decide (b < W.heap.size)) true ts vs ds ps
  | [], [], [], _, _, _, h => h
  | t :: ts, v :: vs, d :: ds, ps, hr, hlt, h => by
    obtain ⟨p, q, h1, h2, rfl⟩ := h
    exact ⟨p, q, Below.trod hl (hr t (by simp)).1 (hr t (by simp)).2 h1 hB (fun x hx => hlt x (by simp [hx])),
      trodAll_below hl hB ts vs ds q (fun t ht => hr t (by simp [ht])) (fun x hx => hlt x (by simp [hx])) h2, rfl⟩
  | [], [], _ :: _, _, _, _, h => h.elim
  | [], _ :: _, _, _, _, _, h => h.elim
  | _ :: _, [], _, _, _, _, h => h.elim
  | _ :: _, _ :: _, [], _, _, _, h => h.elim

/-- The row's post of a law: it answers true; the arguments read as they did; nothing else has turned. -/
theorem post_law {H : Type} {enc : TypeId × Value → H} {P : Program} {fn : Func} {s : ChangeSpec} {W W' : World} {args : Array Value} {ds gs : List (DataW H)} {before : List MemPlace} {bt : TypeId}
    (hl : laidOutB P = true) (hr : ∀ t ∈ fn.params.toList, P.readableRec t = true ∧ t < P.types.size) (hres : fn.resultTypes = #[bt]) (hbu : P.underlying bt = some .bool)
    (hvars : s.vars = []) (hs : s.fn H (ds ++ gs) = { results := [.lit (.bool true)], args := ds })
    (hW : DataW.Whole enc P fn.params.toList s.vars false W args.toList ds gs before) (hB : Below W.heap.size W W') :
    s.post enc P fn false true false false W args (.bool true) W' := by
  have hW0 := hW
  have hlt : ∀ x ∈ before, x.block < W.heap.size := fun x hx => hW.lt x hx
  obtain ⟨p, q, hA, hV, rfl, hfz, hnd⟩ := hW
  refine ⟨ds, gs, p ++ q, [] ++ [], p, [], hW0, ?_, ?_, ?_, hB.frame _, fun h => by cases h⟩
  · rw [hs, hres]
    exact trodAll_cons_mk (shut_bool hbu _) trodAll_mk0
  · rw [hs]
    exact trodAll_below hl hB _ _ _ _ hr (fun x hx => hlt x (by simp [hx])) hA
  · rw [hs, hvars]
    rfl

theorem readable_all {P : Program} {ts : List TypeId} (h : ts.all (fun t => P.readableRec t && decide (t < P.types.size)) = true) : ∀ t ∈ ts, P.readableRec t = true ∧ t < P.types.size := by
  intro t ht
  have := List.all_eq_true.1 h t ht
  simpa using this

/-- An array of whole numbers, by value. -/
theorem open_arr_ints {H : Type} {enc : TypeId × Value → H} {P : Program} {W : World} {base : Nat} {sp : Nat → Bool} {held : Bool} {t e : TypeId} {n : Nat} {k : IntKind} {v : Value} {d : DataW H} {p : List MemPlace}
    (ht : P.underlying t = some (.array n e)) (he : P.underlying e = some (.int k)) (hce : P.cellsOf e = 1) (hct : P.cellsOf t = n)
    (hok : Value.okWide P W .any base t v) (h : DataW.Trod enc P W 0 sp held t v d p) :
    ∃ zs : List Int, v = .agg (zs.map (Value.int k)).toArray ∧ zs.length = n ∧ ∀ z ∈ zs, (Lit.int k z).wf = true := by
  unfold Value.okWide at hok
  rw [ht] at hok
  obtain ⟨cs, rfl, hsz, _⟩ := hok
  obtain ⟨fuel, hf⟩ := h
  obtain ⟨xs, m, rfl, _, hlen, hxs, hall⟩ := DataW.trod_array ht hf
  have hn : cs.size = n := by rw [hsz, hct]
  have each : ∀ i (hi : i < cs.toList.length), ∃ z, cs.toList[i] = .int k z ∧ (Lit.int k z).wf = true := by
    intro i hi
    have hi' : i < n := by simpa [hn] using hi
    have h1 := hall i hi'
    simp only [hce, Nat.mul_one, Value.cells] at h1
    have hx : xs[i]? = some xs[i] := List.getElem?_eq_getElem (by omega)
    rw [hx, List.drop_eq_getElem_cons hi, List.take_succ_cons, List.take_zero] at h1
    cases m with
    | zero => simp [DataW.trod] at h1
    | succ m =>
      unfold DataW.trod at h1
      rw [he] at h1
      generalize cs.toList[i] = c at h1 ⊢
      cases c <;> simp at h1
      obtain ⟨⟨rfl, hw⟩, _⟩ := h1
      exact ⟨_, rfl, hw⟩
  have build : ∀ (l : List Value), (∀ i (hi : i < l.length), ∃ z, l[i] = .int k z ∧ (Lit.int k z).wf = true) → ∃ zs : List Int, l = zs.map (Value.int k) ∧ ∀ z ∈ zs, (Lit.int k z).wf = true := by
    intro l
    induction l with
    | nil => intro _; exact ⟨[], rfl, by simp⟩
    | cons c l ih =>
      intro hl
      obtain ⟨z, hz, hw⟩ := hl 0 (by simp)
      obtain ⟨zs, hzs, hws⟩ := ih (fun i hi => hl (i + 1) (by simpa using hi))
      simp only [List.getElem_cons_zero] at hz
      exact ⟨z :: zs, by rw [hz, hzs]; rfl, by intro y hy; rcases List.mem_cons.1 hy with rfl | hy; exact hw; exact hws y hy⟩
  obtain ⟨zs, hzs, hws⟩ := build cs.toList each
  refine ⟨zs, ?_, ?_, hws⟩
  · rw [← hzs]
  · have := congrArg List.length hzs
    simp only [Array.length_toList, List.length_map] at this
    omega
end Go.Proofs.Ytfpnmphmngdkdaa
