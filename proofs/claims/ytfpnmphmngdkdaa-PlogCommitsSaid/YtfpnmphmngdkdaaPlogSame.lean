/-
  Whether a memory's words are so; what a program that does nothing does not answer: contracts. No condition but the bounds that are typed.
-/
import Derived.Test.YtfpnmphmngdkdaaPlogRef
namespace Go.Proofs.Ytfpnmphmngdkdaa
open Go.ChangeShapes Go.WideShapes Go.ChangeAt Go.RowKit Go.Maps
set_option linter.unusedSimpArgs false
set_option linter.unusedVariables false

/-- Where words lie, cell by cell. -/
theorem holdsU_cells {w : World} {ao : Option Addr} {m c : Nat} {xs : List Int} (h : HoldsU w (.slice ao m c) xs) : ∀ j, j < m → ∃ g o, ao = some ⟨g, o, none⟩ ∧ w.cell? ⟨g, o + j, none⟩ = some (.int .u64 (xs.getD j 0)) := by
  intro j hj
  obtain ⟨ao', c', e, h0, h1, h2, h3⟩ := h
  simp only [Value.slice.injEq] at e
  obtain ⟨rfl, rfl, rfl⟩ := e
  have hu : (u64s xs)[j]? = some (.int .u64 (xs.getD j 0)) := by
    unfold u64s
    rw [List.getElem?_map, List.getD_eq_getElem?_getD, List.getElem?_eq_getElem (by omega)]
    rfl
  cases ao with
  | none => have := h0 rfl; omega
  | some ad =>
    have h4 := h3 ad rfl j _ hu
    have h5 : (u64s xs)[0]? = some (.int .u64 (xs.getD 0 0)) := by
      unfold u64s
      rw [List.getElem?_map, List.getD_eq_getElem?_getD, List.getElem?_eq_getElem (by omega)]
      rfl
    have h6 := h3 ad rfl 0 _ h5
    obtain ⟨b, o, sp⟩ := ad
    have e0 : (⟨b, o, sp⟩ : Addr).add 0 = ⟨b, o, sp⟩ := by unfold Addr.add; rw [if_pos rfl]
    rw [e0] at h6
    cases sp with
    | some z =>
      unfold World.cell? at h6
      simp only at h6
      split at h6
      · simp at h6
      · cases h6
    | none =>
      refine ⟨b, o, rfl, ?_⟩
      have e1 : (⟨b, o, none⟩ : Addr).add j = ⟨b, o + j, none⟩ := by unfold Addr.add; split <;> simp_all
      rw [e1] at h4
      exact h4

def SameAs (S : Pm) (xs : List Int) : Prop := S.now 8 = 0 ∧ ∀ i, i < 3128 → (i < 8 ∨ 816 ≤ i) → xs.getD i 0 = S.now i

set_option maxRecDepth 20000 in
set_option maxHeartbeats 1000000 in
theorem law3_same {w : World} {p : Nat} {D : Nat → Prop} {S : Pm} (h : PmAt w p D S) {v : Value} {xs : List Int} (hv : HoldsU w v xs) (hx : xs.length = 3128) (hn : S.n = 3128) (hg : S.gone = false) (hs : SameAs S xs) :
    Calls Try.prog 60 #[.pointer (some ⟨p, 0, none⟩), v] w fun e w' => e = .returned (.bool true) ∧ w = w' := by
  have hld : ∀ (j : Nat), j < 3128 → Hid (Calls Try.prog 49 #[.pointer (some ⟨p, 0, none⟩), .int .i64 j] w fun e w' => e = .returned (.tuple #[.int .u64 (S.now j), .int .i64 0]) ∧ w = w') := by
    intro j hj
    have hmay : S.may (j : Int) = 0 := by unfold Pm.may; rw [hg, hn]; simp; omega
    have := pm_load h (j : Int)
    have e1 : S.load (j : Int) = S.now j := by unfold Pm.load; rw [hmay]; rfl
    rw [hmay, e1] at this
    exact this
  have HLD := Lib.hid hld
  have HS := Lib.hid hs
  have HV := hv
  obtain ⟨ao, c, rfl, -, -, -, -⟩ := hv
  rw [hx] at HV ⊢
  have HC := Lib.hid (holdsU_cells HV)
  have HW := Lib.hid h.ok.now
  clear h hld hs HV hx hn hg
  go_enter Try.func60, Try.ntmps60
  go_wp2
  go_loopg [5] 3128 (fun gk i wr => ∃ (k : Nat), k + gk = 3128 ∧ i = .int .i64 k ∧ w = wr)
  case atStart => exact ⟨0, by omega, rfl, rfl⟩
  case round =>
    obtain ⟨k, hk, rfl, rfl⟩ := hrel
    by_cases hlt : k < 3128
    · have hki : (k : Int) < 3128 := by omega
      have hk0 : (0 : Int) ≤ (k : Int) := Int.natCast_nonneg _
      obtain ⟨g, o, rfl, e1⟩ := HC.out k hlt
      have HL1 := HLD.out k hlt
      have hsk := HS.out.2 k hlt
      have hs8 := HS.out.1
      rcases (show k < 8 ∨ k = 8 ∨ (8 < k ∧ k < 816) ∨ (816 ≤ k ∧ 8 < k) by omega) with hq | rfl | ⟨hq, hq2⟩ | ⟨hq, hq2⟩
      · rw [hsk (.inl hq)] at e1
        have hqi : (k : Int) < 8 := by omega
        have hq8 : ((k : Int) == 8) = false := by simp; omega
        generalize S.now k = x at e1 HL1
        clear hsk hs8
        go_wp2_with fail
        refine HL1.out.mono ?_
        rintro e w1 ⟨rfl, rfl⟩
        go_wp2
        go_roundg (gk - 1)
        case measure => omega
        case rel => exact ⟨k + 1, by omega, by go_num, rfl⟩
      · rw [hs8] at HL1
        clear hsk hs8 e1
        go_wp2_with fail
        refine HL1.out.mono ?_
        rintro e w1 ⟨rfl, rfl⟩
        go_wp2
        go_roundg (gk - 1)
        case measure => omega
        case rel => exact ⟨9, by omega, rfl, rfl⟩
      · have hqi : (8 : Int) ≤ (k : Int) := by omega
        have hqj : (k : Int) < 816 := by omega
        have hq8 : ((k : Int) == 8) = false := by simp; omega
        generalize S.now k = x at HL1
        clear hsk hs8 e1
        go_wp2_with fail
        refine HL1.out.mono ?_
        rintro e w1 ⟨rfl, rfl⟩
        go_wp2
        go_roundg (gk - 1)
        case measure => omega
        case rel => exact ⟨k + 1, by omega, by go_num, rfl⟩
      · rw [hsk (.inr hq)] at e1
        have hqi : (8 : Int) ≤ (k : Int) := by omega
        have hqj : (816 : Int) ≤ (k : Int) := by omega
        have hq8 : ((k : Int) == 8) = false := by simp; omega
        generalize S.now k = x at e1 HL1
        clear hsk hs8
        go_wp2_with fail
        refine HL1.out.mono ?_
        rintro e w1 ⟨rfl, rfl⟩
        go_wp2
        go_roundg (gk - 1)
        case measure => omega
        case rel => exact ⟨k + 1, by omega, by go_num, rfl⟩
    · obtain rfl : k = 3128 := by omega
      go_wp2
      go_ret
      exact ⟨rfl, rfl⟩

def Z3128 : Pm := Pm.new (List.replicate 3128 0)
theorem Z_n : Z3128.n = 3128 := by
  show min (List.replicate 3128 (0 : Int)).length 10000 = 3128
  rw [List.length_replicate]; rfl
theorem Z_ok : Z3128.Ok := Pm.Ok.new (zeros_wf _)

set_option maxRecDepth 20000 in
theorem awake3 (w : World) : Calls Try.prog 15 #[] w fun e w' => e = .returned (.bool true) ∧ Below w.heap.size w w' := by
  obtain ⟨T, hc, a1, a2, a3, a4, a5, a6⟩ := commit_calm Z_ok (new_calm 3128) Z_n (l := [(1, 5)]) (by decide) (by intro x hx; simp at hx; subst hx; simp)
  have ht1 : T.now 1 = 5 := by rw [a4 1 (by omega)]; rfl
  have hmay : T.may 1 = 0 := live_may a2.1 (by omega) (by rw [a3]; simp)
  have hcm : ∀ (w1 : World) (p : Nat) (D : Nat → Prop), PmAt w1 p D Z3128 → ∀ o, o = Obj.cells #[.int .i64 1, .int .u64 5] 50 (0, 0) → Hid (Calls Try.prog 18 #[.pointer (some ⟨p, 0, none⟩), .slice (some ⟨w1.heap.size, 0, none⟩) 1 1] (w1.alloc o) fun e w' => e = .returned (.int .i64 0) ∧ PmAt w' p D T ∧ Mod D (w1.alloc o) w') := by
    rintro w1 p D h o rfl
    have hlt := h.lt
    have := plog_commit (h.mod (D0 := nob) ((Mod.refl nob w1).alloc (.cells #[.int .i64 1, .int .u64 5] 50)) (fun _ _ h => h)) (lv := .slice (some ⟨w1.heap.size, 0, none⟩) 1 1) (ps := [(1, 5)]) ⟨_, 1, rfl, Nat.le_refl _, by unfold maxLen; omega, fun j hj => by
        have hj0 : j = 0 := by simpa using hj
        subst hj0
        exact ⟨w1.heap.size, 0, rfl, boxed_new w1 _ _ _ 0, boxed_new w1 _ _ _ 1⟩⟩ (by intro g hg hd; cases hg; exact absurd (hlt _ hd) (Nat.lt_irrefl _)) (by intro y hy; simp at hy; subst hy; simp) (by simp) (by show 0 + 10000 < _; omega)
    rw [hc] at this
    exact this
  have HCM := Lib.hid hcm
  have HT1 := Lib.hid ht1
  have HMY := Lib.hid hmay
  clear hc a1 a2 a3 a4 a5 a6 ht1 hmay hcm
  go_enter Try.func15, Try.ntmps15
  go_wp2_with fail
  refine (pm_new 3128 w).mono ?_
  rintro e w1 ⟨p, rfl, h1, hb1⟩
  have H1 : Hid (PmAt w1 p (grow nob w w1) Z3128) := h1
  have HB1 := Lib.hid hb1
  have HC1 := HCM.out w1 p _ H1.out _ rfl
  clear h1 hb1
  go_wp2_with fail
  refine HC1.out.mono ?_
  rintro e w2 ⟨rfl, h2, m2⟩
  have hld := pm_load h2 1
  rw [HMY.out, show T.load 1 = T.now 1 from if_pos HMY.out, HT1.out] at hld
  have HLD := Lib.hid hld
  have HB2 : Hid (Below w.heap.size w w2) := (HB1.out.alloc HB1.out.size _).trans (m2.below (by have := HB1.out.size; simp; omega) (fun b hb => by rcases hb with hb | hb; exact hb.elim; exact hb.1))
  clear h2 m2 hld
  go_wp2_with fail
  refine HLD.out.mono ?_
  rintro e w3 ⟨rfl, rfl⟩
  go_wp2
  go_ret
  exact ⟨rfl, HB2.out⟩
end Go.Proofs.Ytfpnmphmngdkdaa
