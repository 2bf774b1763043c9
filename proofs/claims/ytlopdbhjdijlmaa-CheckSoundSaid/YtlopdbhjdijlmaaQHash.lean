/-
  fmt2.hashed: a directory's entries by their buckets: a contract. No condition but the names.
-/
import Derived.Test.YtlopdbhjdijlmaaQRead2
import Derived.Test.YtlopdbhjdijlmaaQLay2
import Derived.Test.YtlopdbhjdijlmaaQPackM

namespace Go.Proofs.Ytlopdbhjdijlmaa
open Go.ChangeShapes Go.WideShapes Go.ChangeAt Go.RowKit
set_option linter.unusedSimpArgs false
set_option linter.unusedVariables false

/-- The entries of a bucket. -/
noncomputable def bktL (l : List En) (b : Nat) : List En := l.filter fun x => decide (bucketOf x.name = b)
theorem bktL_snoc (l : List En) (x : En) (b : Nat) : bktL (l ++ [x]) b = if bucketOf x.name = b then bktL l b ++ [x] else bktL l b := by
  unfold bktL
  rw [List.filter_append]
  by_cases h : bucketOf x.name = b
  · rw [if_pos h]; simp [h]
  · rw [if_neg h]; simp [h]
theorem bktL_len (l : List En) (b : Nat) : (bktL l b).length ≤ l.length := List.length_filter_le _ _

/-- Four slices in an array. -/
structure Four (w wr : World) (A : Nat) (vs : Nat → Value) (l : List En) : Prop where
  arr : wr.heap[A]? = some (.cells #[vs 0, vs 1, vs 2, vs 3] 149 (0, 0))
  own : ∀ b, b < 4 → wr.ownsRow (A + 1) 27 2 (vs b) (bktL l b).length (enC (bktL l b))
  ap : ∀ b c, b < 4 → c < 4 → b ≠ c → ∀ g, (vs b).ownBlock = some g → (vs c).ownBlock ≠ some g
  below : Below w.heap.size w wr
  age : w.heap.size ≤ A

theorem Four.cell {w wr : World} {A : Nat} {vs : Nat → Value} {l : List En} (h : Four w wr A vs l) (b : Nat) (hb : b < 4) : wr.cell? ⟨A, b, none⟩ = some (vs b) := by
  rw [cell_of_row _ _ _ _ _ _ h.arr]
  rcases (show b = 0 ∨ b = 1 ∨ b = 2 ∨ b = 3 by omega) with rfl | rfl | rfl | rfl <;> rfl
theorem Four.frozen {w wr : World} {A : Nat} {vs : Nat → Value} {l : List En} (h : Four w wr A vs l) (b : Nat) : wr.frozen? ⟨A, b, none⟩ = false := frozen_of_row _ _ _ _ _ h.arr
theorem Four.lt {w wr : World} {A : Nat} {vs : Nat → Value} {l : List En} (h : Four w wr A vs l) : A < wr.heap.size := lt_of_block h.arr
theorem Four.mod {w wr w' : World} {A : Nat} {vs : Nat → Value} {l : List En} (h : Four w wr A vs l) (hm : Mod nob wr w') : Four w w' A vs l :=
  ⟨hm.heap h.arr (fun h => h), fun b hb => hm.own (h.own b hb) (fun _ _ h => h), h.ap, h.below.trans (hm.below h.below.size (fun b h => h.elim)), h.age⟩

theorem grown_le {w w' : World} {row : Option Nat} (h : w.grownBy w' row) : w.heap.size ≤ w'.heap.size := (mod_of_grown h).size

/-- One of the four grows by an entry, and is laid back. -/
theorem Four.push {w w0 w1 : World} {A b : Nat} {vs : Nat → Value} {l : List En} {x : En} {v' : Value} (h : Four w w0 A vs l) (hb : b < 4) (hbk : bucketOf x.name = b)
    (hown : w1.ownsRow (A + 1) 27 2 v' ((bktL l b).length + 1) (enC (bktL l b) ++ [.string x.name, .int .i64 x.ino])) (hm : Mod (fun g => (vs b).ownBlock = some g) w0 w1)
    (hat : v'.ownBlock = (vs b).ownBlock ∨ ∃ g, v'.ownBlock = some g ∧ w0.heap.size ≤ g) :
    Four w (w1.setCell ⟨A, b, none⟩ v') A (fun c => if c = b then v' else vs c) (l ++ [x]) := by
  have hAn : ¬ (vs b).ownBlock = some A := fun e => by have := own_ge (h.own b hb) A e; omega
  have harr := hm.heap h.arr hAn
  have hset := heap_setCell_same w1 A b _ _ v' harr
  have hms : Mod (fun g => g = A) w1 (w1.setCell ⟨A, b, none⟩ v') := (Mod.refl (fun g => g = A) w1).setCell (a := ⟨A, b, none⟩) (.inl rfl) _
  refine ⟨?_, fun c hc => ?_, fun c d hc hd hne g h1 h2 => ?_, ?_, h.age⟩
  · rw [hset]
    congr 2
    rcases (show b = 0 ∨ b = 1 ∨ b = 2 ∨ b = 3 by omega) with rfl | rfl | rfl | rfl <;> rfl
  · by_cases e : c = b
    · subst e
      rw [if_pos rfl, bktL_snoc, if_pos hbk]
      have := hms.own hown (fun g hg e => by have := own_ge hown g hg; omega)
      rw [List.length_append, List.length_singleton, enC_append]
      exact this
    · rw [if_neg e, bktL_snoc, if_neg (by omega)]
      have h1 := hm.own (h.own c hc) (fun g hg hgb => h.ap c b hc hb e g hg hgb)
      exact hms.own h1 (fun g hg e => by have := own_ge h1 g hg; omega)
  · have hlt : ∀ c, c < 4 → ∀ g, (vs c).ownBlock = some g → g < w0.heap.size := fun c hc g hg => own_lt (h.own c hc) hg
    by_cases e1 : c = b
    · rw [if_pos e1] at h1
      rw [if_neg (by omega)] at h2
      rcases hat with e | ⟨g', e, hg'⟩
      · rw [e] at h1
        exact h.ap b d hb hd (by omega) g h1 h2
      · rw [e] at h1
        have := hlt d hd g h2
        simp only [Option.some.injEq] at h1
        omega
    · rw [if_neg e1] at h1
      by_cases e2 : d = b
      · rw [if_pos e2] at h2
        rcases hat with e | ⟨g', e, hg'⟩
        · rw [e] at h2
          exact h.ap c b hc hb e1 g h1 h2
        · rw [e] at h2
          have := hlt c hc g h1
          simp only [Option.some.injEq] at h2
          omega
      · rw [if_neg e2] at h2
        exact h.ap c d hc hd hne g h1 h2
  · have h1 : Below w.heap.size w w1 := h.below.trans (hm.below h.below.size (fun g hg => by have := own_ge (h.own b hb) g hg; have := h.age; omega))
    exact h1.setCell h.age _

theorem Mod.cellsSet {D : Nat → Prop} {w : World} (b : Nat) (hb : D b ∨ w.heap.size ≤ b) : ∀ (vs : List Value) (o : Nat) (w' : World), Mod D w w' → Mod D w (w'.setCells b o vs)
  | [], _, _, h => h
  | v :: vs, o, w', h => Mod.cellsSet b hb vs (o + 1) _ (h.setCell (a := ⟨b, o, none⟩) hb v)

theorem Four.new {w w0 : World} {A : Nat} (hb : Below w.heap.size w w0) (ha : w.heap.size ≤ A) (h : w0.heap[A]? = some (.cells #[.slice none 0 0, .slice none 0 0, .slice none 0 0, .slice none 0 0] 149 (0, 0))) : Four w w0 A (fun _ => .slice none 0 0) [] :=
  ⟨h, fun b _ => World.ownsRow_nil _ _ _ _, fun _ _ _ _ _ g h => (by cases h), hb, ha⟩

set_option maxRecDepth 20000 in
set_option maxHeartbeats 8000000 in
theorem hashed_any {w : World} {ev : Value} {l : List En} (he : HoldsE w ev l) (hl : l.length ≤ 24) (hg : ∀ k, k < l.length → goodB (l.getD k default).name.data.toList = true) :
    Calls Try.prog 114 #[ev] w fun e w' => ∃ vs : Nat → Value, e = .returned (.agg #[vs 0, vs 1, vs 2, vs 3]) ∧ (∀ b, b < 4 → HoldsE w' (vs b) (bktL l b)) ∧ (∀ b, b < 4 → ∀ g, (vs b).ownBlock = some g → w.heap.size ≤ g) ∧ Below w.heap.size w w' := by
  obtain ⟨i0, hi0, hz0, hz1, hz2⟩ := info_parts Try.infoEntry
  have HE := Lib.hid he
  have HG := Lib.hid hg
  obtain ⟨ao, c, rfl, e1, e2, -, -⟩ := he
  obtain ⟨L, hL⟩ : ∃ L, L = l.length := ⟨_, rfl⟩
  rw [← hL] at e1 hl HE ⊢
  have HL := Lib.hid hL
  unfold maxLen at e2
  clear hg hL
  go_enter Try.func114, Try.ntmps114
  go_wp2_with fail
  obtain ⟨A, hA⟩ : ∃ A, A = w.heap.size + 1 := ⟨_, rfl⟩
  have HF0 : Hid (Four w ((w.alloc (.cells #[.slice none 0 0, .slice none 0 0, .slice none 0 0, .slice none 0 0] 149)).alloc (.cells #[.slice none 0 0, .slice none 0 0, .slice none 0 0, .slice none 0 0] 149)) A (fun _ => .slice none 0 0) []) :=
    Four.new (((Below.refl _ _).alloc (Nat.le_refl _) _).alloc (by simp) _) (by omega) (by rw [hA]; exact heap_new1 _ _ _)
  have HR0 : Hid (((w.alloc (.cells #[.slice none 0 0, .slice none 0 0, .slice none 0 0, .slice none 0 0] 149)).alloc (.cells #[.slice none 0 0, .slice none 0 0, .slice none 0 0, .slice none 0 0] 149)).heap[w.heap.size]? = some (.cells #[.slice none 0 0, .slice none 0 0, .slice none 0 0, .slice none 0 0] 149 (0, 0))) := heap_new0 _ _ _
  generalize (w.alloc (.cells #[.slice none 0 0, .slice none 0 0, .slice none 0 0, .slice none 0 0] 149)).alloc (.cells #[.slice none 0 0, .slice none 0 0, .slice none 0 0, .slice none 0 0] 149) = w0 at *
  have HAA := Lib.hid hA
  rw [← hA]
  clear hA
  go_loopg [9] L (fun gk iv wr => ∃ (k : Nat) (vs : Nat → Value), k + gk = L ∧ iv = .int .i64 k ∧ Hid (Four w wr A vs (l.take k)) ∧ Hid (Below A w0 wr))
  case atStart => exact ⟨0, _, by omega, rfl, HF0, Below.refl _ _⟩
  case round =>
    obtain ⟨k, vs, hk, rfl, HF, HBW⟩ := hrel
    by_cases hlt : k < L
    · have hki : (k : Int) < (L : Int) := by omega
      obtain ⟨ao', c', e, -, -, -, hcell⟩ := HE.out.below HF.out.below
      simp only [Value.slice.injEq] at e
      obtain ⟨rfl, -, rfl⟩ := e
      obtain ⟨g, o, rfl, d1, d2⟩ := hcell k (by rw [← HL.out]; exact hlt)
      have hgd := HG.out k (by rw [← HL.out]; exact hlt)
      have htk : l.take (k + 1) = l.take k ++ [l.getD k default] := by
        have hkl : k < l.length := by rw [← HL.out]; exact hlt
        rw [List.take_succ_eq_append_getElem hkl, List.getD_eq_getElem?_getD, List.getElem?_eq_getElem hkl]
        rfl
      obtain ⟨x, hx⟩ : ∃ x, x = l.getD k default := ⟨_, rfl⟩
      rw [← hx] at d1 d2 hgd htk
      obtain ⟨nm, ino⟩ := x
      dsimp only at d1 d2 hgd
      have HTK := Lib.hid htk
      have HBK := Lib.hid (fun wx => bucket_yes nm hgd wx)
      obtain ⟨b, hb⟩ : ∃ b, b = bucketOf nm := ⟨_, rfl⟩
      have hb4 : b < 4 := by rw [hb]; exact bucketOf_lt nm
      rw [← hb] at HBK
      have HBB := Lib.hid hb
      clear hcell hgd htk hx hb
      go_upto_region 5 with (fail)
      obtain ⟨X, hX⟩ : ∃ X, X = wr.heap.size := ⟨_, rfl⟩
      have hx : (wr.alloc (.cells #[.string nm, .int .i64 ino] 27)).heap[wr.heap.size]? = some (.cells #[.string nm, .int .i64 ino] 27 (0, 0)) := heap_alloc_new _ _
      have HF4 := Lib.hid (HF.out.mod ((Mod.refl nob wr).alloc (.cells #[.string nm, .int .i64 ino] 27)))
      have HB4 : Hid (Below A w0 (wr.alloc (.cells #[.string nm, .int .i64 ino] 27))) := HBW.out.alloc (by have := HF.out.lt; omega) _
      rw [← hX] at hx ⊢
      generalize wr.alloc (.cells #[.string nm, .int .i64 ino] 27) = w4 at *
      have d0 : w4.cell? ⟨X, 0, none⟩ = some (.string nm) := by rw [cell_of_row _ _ _ _ _ _ hx]; rfl
      clear d1 d2 hX
      have HXX := Lib.hid hx
      clear hx
      go_upto_region 6 with (go_at_call 131; with_reducible refine (HBK.out _).mono ?_; rintro e w5 ⟨rfl, hb5⟩)
      have HM5 : Hid (Mod nob w4 w5) := mod_of_below hb5
      have HF5 := Lib.hid (HF4.out.mod HM5.out)
      have HB5 : Hid (Below A w0 w5) := HB4.out.trans (hb5.mono (by have := HF4.out.lt; omega))
      have hx5 := HM5.out.heap HXX.out (fun h => h)
      have x0 : w5.cell? ⟨X, 0, none⟩ = some (.string nm) := by rw [cell_of_row _ _ _ _ _ _ hx5]; rfl
      have x1 : w5.cell? ⟨X, 1, none⟩ = some (.int .i64 ino) := by rw [cell_of_row _ _ _ _ _ _ hx5]; rfl
      have cA := HF5.out.cell b hb4
      have fA := HF5.out.frozen b
      obtain ⟨vb, hvb⟩ : ∃ vb, vb = vs b := ⟨_, rfl⟩
      have HOB := Lib.hid (HF5.out.own b hb4)
      rw [← hvb] at cA HOB
      have HVB := Lib.hid hvb
      have hbi : (b : Int) < 4 := by omega
      obtain ⟨m, hm⟩ : ∃ m, m = (bktL (l.take k) b).length := ⟨_, rfl⟩
      rw [← hm] at HOB
      have hm24 : m ≤ 24 := by rw [hm]; have h1 := bktL_len (l.take k) b; rw [List.length_take] at h1; omega
      have HMM := Lib.hid hm
      have hA5 := HF5.out.lt
      have hXlt : X < w5.heap.size := World.block_lt_of_cell? _ _ x0
      have hnA : ¬ vb.ownBlock = some A := fun e => by have := own_ge HOB.out A e; omega
      clear d0 hvb hm hb5 hx5
      go_region_law
        (refine step_append_any (by rfl) (.tmp 19) (.tmp 21) _ (by rfl) (A + 1) 27 i0 _ 2 24 Try.underlying23 hi0 hz0 hz1 hz2 rfl (by omega) vb m (enC (bktL (l.take k) b)) (by rfl) (Mod.own (D := nob) (w := w5) ?_ HOB.out (fun _ _ h => h)) (.slice (some ⟨w5.heap.size, 0, none⟩) 1 1) 1 [.string nm, .int .i64 ino] (by rfl) (HoldsC.block (cs := #[.string nm, .int .i64 ino]) (t := 27) (fr := (0, 0)) ?_ (by unfold maxLen; omega)) (by rfl) (by simp [Value.oneCell']) (by unfold maxLen; omega) (by omega) ?_ ?_
         · repeat (first | exact Mod.refl _ _ | refine Mod.drew ?_ | refine Mod.alloc ?_ _)
         · first | exact heap_alloc_new _ _ | exact heap_new1 _ _ _ | exact heap_new0 _ _ _
         · first | omega | (simp; done) | (simp; omega)
         intro v' w1 hown1 hgrow hat
         obtain ⟨va, cap2, rfl, s1, s2, -⟩ := own_shape hown1
         have HX : Mod (fun g => vb.ownBlock = some g) w5 w1 := (((Mod.refl _ w5).alloc _).drew).step (mod_of_grown hgrow) (fun _ h => h)
         have hs2 : w1.cell? ⟨A, b, none⟩ = some vb := HX.cell cA hnA
         have hs3 : w1.frozen? ⟨A, b, none⟩ = false := frozen_of_row _ _ _ _ _ (HX.heap HF5.out.arr hnA))
      all_goals
        have HP : Hid (Four w (w1.setCell ⟨A, b, none⟩ (.slice va (m + 1) cap2)) A (fun c => if c = b then .slice va (m + 1) cap2 else vs c) (l.take (k + 1))) := by
          unfold Hid
          rw [HTK.out]
          refine HF5.out.push (x := ⟨nm, ino⟩) hb4 HBB.out.symm (by rw [← HMM.out]; exact hown1) (by rw [← HVB.out]; exact HX) ?_
          rw [← HVB.out]
          rcases hat with h | h
          · exact .inl h
          · exact .inr ⟨_, h, by simp⟩
        have HB6 : Hid (Below A w0 (w1.setCell ⟨A, b, none⟩ (.slice va (m + 1) cap2))) := (HB5.out.trans (HX.below (Nat.le_of_lt hA5) (fun g hg => by have := own_ge HOB.out g hg; omega))).setCell (Nat.le_refl _) _
        clear hown1 hgrow hat HX s1 s2 hs2 hs3
        go_wp2_with fail
        go_roundg (gk - 1)
        case measure => omega
        case rel => exact ⟨k + 1, _, by omega, by go_num, HP, HB6⟩
    · have hge : ¬ (k : Int) < (L : Int) := by omega
      have hkl : l.take k = l := List.take_of_length_le (by have := HL.out; omega)
      have hF := HF.out
      rw [hkl] at hF
      have HF2 := Lib.hid hF
      have HRA : Hid (wr.rangeAt A 0 [vs 0, vs 1, vs 2, vs 3]) := fun j v hj => by
        rw [Nat.zero_add, cell_of_row _ _ _ _ _ _ hF.arr]
        simpa using hj
      have hone : ∀ b, b < 4 → (vs b).oneCell' = true := fun b hb => by
        obtain ⟨_, _, e, -, -, -⟩ := own_shape (hF.own b hb)
        rw [e]; rfl
      have HONE : Hid ((#[vs 0, vs 1, vs 2, vs 3] : Array Value).all (·.oneCell') = true) := by
        unfold Hid
        simp [hone 0 (by omega), hone 1 (by omega), hone 2 (by omega), hone 3 (by omega)]
      have HS4 : Hid ((Try.prog.info? 149).map (·.size) = some [vs 0, vs 1, vs 2, vs 3].length) := by unfold Hid; kernel_rfl
      have HS4' : Hid ((Try.prog.info? 149).map (·.size) = some (#[vs 0, vs 1, vs 2, vs 3] : Array Value).size) := by unfold Hid; kernel_rfl
      have hR : wr.heap[w.heap.size]? = some (.cells #[.slice none 0 0, .slice none 0 0, .slice none 0 0, .slice none 0 0] 149 (0, 0)) := by
        rw [HBW.out.block _ (by have := HAA.out; omega)]
        exact HR0.out
      have HTH : Hid (wr.there w.heap.size 0 (#[vs 0, vs 1, vs 2, vs 3] : Array Value).size) := by
        intro j hj
        rw [Nat.zero_add]
        refine ⟨?_, frozen_of_row _ _ _ _ _ hR⟩
        rw [cell_of_row _ _ _ _ _ _ hR, Array.getElem?_eq_getElem (show j < 4 from hj)]
        rfl
      have hset := heap_setCells_all w.heap.size 149 [vs 0, vs 1, vs 2, vs 3] [] [.slice none 0 0, .slice none 0 0, .slice none 0 0, .slice none 0 0] wr hR rfl
      have hms : Mod (fun g => g = w.heap.size) wr (wr.setCells w.heap.size 0 [vs 0, vs 1, vs 2, vs 3]) := Mod.cellsSet (D := fun g => g = w.heap.size) w.heap.size (.inl rfl) _ _ _ (Mod.refl _ wr)
      have HSET : Hid ((wr.setCells w.heap.size 0 [vs 0, vs 1, vs 2, vs 3]).heap[w.heap.size]? = some (.cells #[vs 0, vs 1, vs 2, vs 3] 149 (0, 0))) := hset
      have HOW : Hid (∀ b, b < 4 → HoldsE (wr.setCells w.heap.size 0 [vs 0, vs 1, vs 2, vs 3]) (vs b) (bktL l b)) := fun b hb => by
        have h1 := hms.own (hF.own b hb) (fun g hg e => by have := own_ge (hF.own b hb) g hg; have := HAA.out; omega)
        exact holdsE_of_own rfl h1
      have HBL : Hid (Below w.heap.size w (wr.setCells w.heap.size 0 [vs 0, vs 1, vs 2, vs 3])) := hF.below.trans (Lib.below_setCells_w (Nat.le_refl _) _ _ _)
      have HGE : Hid (∀ b, b < 4 → ∀ g, (vs b).ownBlock = some g → w.heap.size ≤ g) := fun b hb g hg => by have := own_ge (hF.own b hb) g hg; have := HAA.out; omega
      clear hF hone hR hset hms hkl
      go_upto_region 8 with (fail)
      go_cut [25] (fun _ wc => Hid (wc.heap[w.heap.size]? = some (.cells #[vs 0, vs 1, vs 2, vs 3] 149 (0, 0))) ∧ Hid (∀ b, b < 4 → HoldsE wc (vs b) (bktL l b)) ∧ Hid (Below w.heap.size w wc))
      case first =>
        go_wp2_with (first
          | (with_reducible refine wpList_load_mid (op := ⟨some 25, _, _, _, _, _⟩) rfl 149 _ rfl A 0 rfl [vs 0, vs 1, vs 2, vs 3] _ HRA.out Try.underlying149 rfl HS4.out ?_)
          | (with_reducible refine wpList_store_mid (op := ⟨none, _, _, _, _, _⟩) rfl 149 _ _ rfl w.heap.size 0 #[vs 0, vs 1, vs 2, vs 3] rfl rfl HTH.out HS4'.out HONE.out ?_))
        go_meet
        case rel => exact ⟨HSET.out, HOW.out, HBL.out⟩
      case rest =>
        obtain ⟨HSE, HHO, HBE⟩ := hcut
        have hra : wc.rangeAt w.heap.size 0 [vs 0, vs 1, vs 2, vs 3] := fun j v hj => by
          rw [Nat.zero_add, cell_of_row _ _ _ _ _ _ HSE.out]
          simpa using hj
        have hlv := run_loadVar_mid (P := Try.prog) wc w.heap.size 0 149 _ _ hra Try.underlying149 rfl HS4.out
        have HLV := Lib.hid hlv
        clear hlv hra
        go_wp2_with fail
        refine bodyPost_ret (v := .agg #[vs 0, vs 1, vs 2, vs 3]) ?_ rfl ⟨vs, rfl, HHO.out, HGE.out, HBE.out⟩
        have hlv := HLV.out
        simp [results, Try.results114, asAddr, hlv]
end Go.Proofs.Ytlopdbhjdijlmaa
