import Derived.Test.YtfpnmphmngdkdaaPalloc
import Derived.Maps.AppendAt
namespace Go.Proofs.Ytfpnmphmngdkdaa
open Go.ChangeShapes Go.WideShapes Go.ChangeAt Go.RowKit
set_option linter.unusedSimpArgs false
set_option linter.unusedVariables false

theorem take_neg {w : World} {p : Nat} (n : Int) (hn : n < 0) :
    Calls Try.prog 64 #[.pointer (some ⟨p, 0, none⟩), .int .i64 n] w fun e w' => e = .returned (.tuple #[.slice none 0 0, .int .i64 1]) ∧ w = w' := by
  go_enter Try.func64, Try.ntmps64
  go_wp2
  go_ret2
  exact ⟨rfl, rfl⟩

theorem take_no {w : World} {p : Nat} {D : Nat → Prop} {S : Sh} (h : SheetAt w p D S) (n : Int) (hn : freeN S < n) :
    Calls Try.prog 64 #[.pointer (some ⟨p, 0, none⟩), .int .i64 n] w fun e w' => e = .returned (.tuple #[.slice none 0 0, .int .i64 7]) ∧ w = w' := by
  have HF := Lib.hid (free_any h)
  have h0 : 0 ≤ n := by omega
  generalize freeN S = y at hn HF
  clear h
  go_enter Try.func64, Try.ntmps64
  go_wp2_with (go_at_call 69; refine HF.out.mono ?_; rintro e w' ⟨rfl, rfl⟩)
  go_ret2
  exact ⟨rfl, rfl⟩

def nums (l : List Nat) : List Value := l.map fun (b : Nat) => .int .i64 (b : Int)

theorem nums_len (l : List Nat) : (nums l).length = l.length := by simp [nums]
theorem nums_snoc (l : List Nat) (b : Nat) : nums (l ++ [b]) = nums l ++ [.int .i64 (b : Int)] := by simp [nums]

/-- The sheet, and a row of numbers aside. -/
def Taken (w : World) (p : Nat) (D : Nat → Prop) (wr : World) (T : Sh) (v : Value) (xs : List Nat) : Prop :=
  ∃ Dk, SheetAt wr p Dk T ∧ wr.ownsRow w.heap.size 3 1 v xs.length (nums xs) ∧ (∀ g, v.ownBlock = some g → ¬ Dk g) ∧ (∀ b, Dk b → grow D w wr b) ∧ Mod D w wr

theorem own_lt {w : World} {base : Nat} {e : TypeId} {size : Nat} {v : Value} {n : Nat} {xs : List Value} (h : w.ownsRow base e size v n xs) {g : Nat} (hg : v.ownBlock = some g) : g < w.heap.size := by
  rcases h.2 with ⟨rfl, rfl⟩ | ⟨g', cap, cur, rfl, hb, hc, _⟩
  · cases hg
  · cases hg; exact lt_of_block hc

/-- A step that writes the sheet alone. -/
theorem Taken.step {w : World} {p : Nat} {D : Nat → Prop} {wr w2 : World} {T T2 : Sh} {v : Value} {xs : List Nat} (h : Taken w p D wr T v xs)
    (hs : ∀ Dk, SheetAt wr p Dk T → SheetAt w2 p (grow Dk wr w2) T2 ∧ Mod Dk wr w2) : Taken w p D w2 T2 v xs := by
  obtain ⟨Dk, h1, h2, h3, h4, h5⟩ := h
  obtain ⟨k1, k2⟩ := hs Dk h1
  have hD : ∀ b, grow Dk wr w2 b → grow D w w2 b := by
    intro b hb
    rcases hb with hb | hb
    · rcases h4 b hb with h | h
      · exact .inl h
      · exact .inr ⟨h.1, by have := k2.size; omega⟩
    · exact .inr ⟨by have := h5.size; omega, hb.2⟩
  refine ⟨grow Dk wr w2, k1, k2.own h2 h3, ?_, hD, h5.trans (k2.mono (fun b hb hd => h4 b hd))⟩
  intro g hg hgd
  rcases hgd with hgd | hgd
  · exact h3 g hg hgd
  · have := own_lt h2 hg; omega

theorem infoInt : (Try.prog.info? 3).map (fun i => (i.zero, i.size, i.bytes)) = some (some (.int .i64 0), 1, 8) := by kernel_rfl

theorem Taken.own {w : World} {p : Nat} {D : Nat → Prop} {wr : World} {T : Sh} {v : Value} {xs : List Nat} (h : Taken w p D wr T v xs) : wr.ownsRow w.heap.size 3 1 v xs.length (nums xs) := by
  obtain ⟨Dk, h1, h2, _⟩ := h
  exact h2

theorem Taken.size {w : World} {p : Nat} {D : Nat → Prop} {wr : World} {T : Sh} {v : Value} {xs : List Nat} (h : Taken w p D wr T v xs) : w.heap.size ≤ wr.heap.size := by
  obtain ⟨Dk, _, _, _, _, h5⟩ := h
  exact h5.size

theorem Taken.start {w : World} {p : Nat} {D : Nat → Prop} {S : Sh} (h : SheetAt w p D S) : Taken w p D w S (.slice none 0 0) [] :=
  ⟨D, h, ⟨rfl, .inl ⟨rfl, rfl⟩⟩, (by intro g hg; cases hg), (fun b hb => .inl hb), Mod.refl _ _⟩

theorem Taken.push {w : World} {p : Nat} {D : Nat → Prop} {w2 w3 : World} {T : Sh} {v v' : Value} {xs : List Nat} (h : Taken w p D w2 T v xs) {o : Obj} (k m : Nat) (hm : m = xs.length)
    (hown : w3.ownsRow w.heap.size 3 1 v' (m + 1) (nums xs ++ [.int .i64 (k : Int)])) (hgr : (w2.alloc o).grownBy w3 v.ownBlock)
    (hat : v'.ownBlock = v.ownBlock ∨ v'.ownBlock = some (w2.alloc o).heap.size) : Taken w p D w3 T v' (xs ++ [k]) := by
  obtain ⟨Dk, h1, h2, h3, h4, h5⟩ := h
  have hv : ∀ b, v.ownBlock = some b → w.heap.size ≤ b ∧ b < w2.heap.size := by
    intro b hb
    rcases h2.2 with ⟨rfl, _⟩ | ⟨g', cap, cur, rfl, hb', hc, _⟩
    · cases hb
    · cases hb; exact ⟨hb', lt_of_block hc⟩
  have hm3 : Mod (fun b => v.ownBlock = some b) w2 w3 := ((Mod.refl _ w2).alloc o).trans ((mod_of_grown hgr).mono (fun b _ hb => .inl hb))
  have hsz : (w2.alloc o).heap.size = w2.heap.size + 1 := by simp
  refine ⟨Dk, h1.mod hm3 (fun b hb hbv => h3 b hbv hb), ?_, ?_, ?_, h5.trans (hm3.mono (fun b _ hb => .inr (hv b hb)))⟩
  · rw [nums_snoc, List.length_append, ← hm]
    exact hown
  · intro g hg hgd
    rcases hat with hat | hat
    · exact h3 g (hat ▸ hg) hgd
    · rw [hat] at hg
      have := h1.lt g hgd
      simp only [Option.some.injEq] at hg
      omega
  · intro b hb
    rcases h4 b hb with h | h
    · exact .inl h
    · exact .inr ⟨h.1, by have := hm3.size; omega⟩

theorem Taken.set {w : World} {p : Nat} {D : Nat → Prop} {wr w2 : World} {T T2 : Sh} {v : Value} {xs : List Nat} {Dk : Nat → Prop} (h1 : SheetAt wr p Dk T) (h2 : wr.ownsRow w.heap.size 3 1 v xs.length (nums xs))
    (h3 : ∀ g, v.ownBlock = some g → ¬ Dk g) (h4 : ∀ b, Dk b → grow D w wr b) (h5 : Mod D w wr)
    (k1 : SheetAt w2 p (grow Dk wr w2) T2) (k2 : Mod Dk wr w2) : Taken w p D w2 T2 v xs := by
  have hD : ∀ b, grow Dk wr w2 b → grow D w w2 b := by
    intro b hb
    rcases hb with hb | hb
    · rcases h4 b hb with h | h
      · exact .inl h
      · exact .inr ⟨h.1, by have := k2.size; omega⟩
    · exact .inr ⟨by have := h5.size; omega, hb.2⟩
  refine ⟨grow Dk wr w2, k1, k2.own h2 h3, ?_, hD, h5.trans (k2.mono (fun b hb hd => h4 b hd))⟩
  intro g hg hgd
  rcases hgd with hgd | hgd
  · exact h3 g hg hgd
  · have := own_lt h2 hg; omega

set_option maxRecDepth 20000 in
set_option maxHeartbeats 1000000 in
theorem take_ok0 {w : World} {p : Nat} {D : Nat → Prop} {S : Sh} (HT0 : Hid (Taken w p D w S (.slice none 0 0) [])) (HL : Hid (S.was.length + 2400 < 1099511627776)) (n y fu : Nat) (hn : n ≤ y) (hy : y ≤ 256)
    (HF : Hid (Calls Try.prog 69 #[.pointer (some ⟨p, 0, none⟩)] w fun e w' => e = .returned (.int .i64 (y : Nat)) ∧ w = w')) (HFR : Hid (n ≤ freeFrom S 1 fu)) (HFU : Hid (fu = 255)) :
    Calls Try.prog 64 #[.pointer (some ⟨p, 0, none⟩), .int .i64 n] w fun e w' => ∃ v, e = .returned (.tuple #[v, .int .i64 0]) ∧ Taken w p D w' (takeFrom fu S 1 n).1 v (takeFrom fu S 1 n).2 := by
  obtain ⟨i0, hi, hz0, hz1, hz2⟩ := info_parts infoInt
  go_enter Try.func64, Try.ntmps64
  go_wp2_with (go_at_call 69; refine HF.out.mono ?_; rintro e w' ⟨rfl, rfl⟩)
  simp only [Nat.not_lt.2 hn, decide_false]
  go_loopg [6, 7] 255 (fun g v b wr => ∃ (k m : Nat) (T : Sh) (xs : List Nat), k + g = 256 ∧ 1 ≤ k ∧ b = .int .i64 k ∧ m ≤ n ∧ Hid (m = xs.length) ∧ Hid (Taken w p D wr T v xs) ∧ Hid (T.was.length + 9 * g ≤ S.was.length + 2300) ∧
    Hid (n - m ≤ freeFrom T k g) ∧ Hid ((takeFrom g T k (n - m)).1 = (takeFrom fu S 1 n).1 ∧ xs ++ (takeFrom g T k (n - m)).2 = (takeFrom fu S 1 n).2))
  case atStart =>
    refine ⟨1, 0, S, [], by omega, by omega, rfl, by omega, rfl, HT0.out, ?_, ?_, ?_⟩
    · have := HL.out; unfold Hid; omega
    · have h1 := HFU.out; have h2 := HFR.out; subst h1; exact h2
    · have h1 := HFU.out; subst h1; exact ⟨rfl, rfl⟩
  case round =>
    obtain ⟨k, m, T, xs, hk, hk1, rfl, hmn, HM, HT, HW, HFF, HR⟩ := hrel
    obtain ⟨Dk, h1, h2, h3, h4, h5⟩ := id HT.out
    obtain ⟨ao, cap, hv, hn', hm', hao⟩ := own_shape h2
    rw [← HM.out] at hv
    subst hv
    have HS1 := Lib.hid h1
    have HH2 := Lib.hid h2
    have HH3 := Lib.hid h3
    have HH4 := Lib.hid h4
    have HH5 := Lib.hid h5
    clear h1 h2 h3 h4 h5 hao hm'
    by_cases hlt : m < n
    · have hff := HFF.out
      have hg0 : 0 < gk := by
        rcases Nat.eq_zero_or_pos gk with h0 | h0
        · subst h0; simp only [freeFrom] at hff; omega
        · exact h0
      obtain ⟨g', hg'⟩ : ∃ g', gk = g' + 1 := ⟨gk - 1, by omega⟩
      have hk2 : k < 256 := by omega
      have HUS := Lib.hid (used_any HS1.out k hk2)
      cases hb : bitB T k with
      | true =>
        rw [hb] at HUS
        have HB := Lib.hid hb
        clear hb hff
        go_wp2_with (go_at_call 113; refine HUS.out.mono ?_; rintro e w' ⟨rfl, rfl⟩)
        go_roundg (g')
        case measure => omega
        case rel =>
          have hr := HR.out
          have hf := HFF.out
          have hw := HW.out
          subst hg'
          rw [takeFrom_used HB.out (by omega)] at hr
          simp only [freeFrom, HB.out] at hf
          exact ⟨k + 1, m, T, xs, by omega, by omega, (by simp), by omega, HM.out, HT.out, (by unfold Hid; omega), (by unfold Hid; simpa using hf), hr⟩
      | false =>
        rw [hb] at HUS
        have HB := Lib.hid hb
        clear hb hff
        have hw1 : T.was.length < 1099511627776 := by have := HW.out; have := HL.out; omega
        have hw2 : (setB T k true).was.length + 8 < 1099511627776 := by have := setB_was T k true; have := HW.out; have := HL.out; omega
        have HSET := Lib.hid (set_any HS1.out hw1 k hk2 true)
        have HCL : Hid (∀ w1, SheetAt w1 p (grow Dk wr w1) (setB T k true) → _) := fun w1 h => clean_any h hw2 k hk2
        clear hw1 hw2
        go_wp2_with (first | (go_at_call 113; refine HUS.out.mono ?_; rintro e w' ⟨rfl, rfl⟩) | (go_at_call 71; refine HSET.out.mono ?_; rintro e w1 ⟨rfl, hs1, hm1⟩; have HC1 := Lib.hid (HCL.out _ hs1); have HM1 := Lib.hid hm1; clear hs1 hm1) | (go_at_call 114; refine HC1.out.mono ?_; rintro e w2 ⟨rfl, hs2, hm2⟩; rw [grow_grow HM1.out.size hm2.size] at hs2; have HT2 := Lib.hid (Taken.set HS1.out HH2.out HH3.out HH4.out HH5.out hs2 (HM1.out.trans hm2)); have ho2 := HT2.out.own; rw [← HM.out] at ho2; have HO2 := Lib.hid ho2; clear ho2 hs2 hm2) | (at_builtin; refine wpList_append_own_at _ rfl (.tmp 32) (.tmp 34) 44 rfl w.heap.size 3 i0 (.int .i64 0) 1 8 Try.underlying44 hi hz0 hz1 hz2 rfl (by decide) _ _ _ rfl (HO2.out.alloc _) ⟨w2.heap.size, 0, none⟩ 1 1 [.int .i64 (k : Int)] rfl rfl (cells_new _ _ _) (by simp [Value.oneCell']) (by unfold maxLen; omega) (by omega) (by have := HT2.out.size; simp; omega) ?_))
        intro v' w3 hown hgr _ hat
        have HT3 := Lib.hid (Taken.push HT2.out k m HM.out hown hgr (by simpa using hat))
        clear hown hgr hat
        go_wp2
        go_roundg (g')
        case measure => omega
        case rel =>
          have hr := HR.out
          have hf := HFF.out
          have hw := HW.out
          have hwt := takeB_was T k
          subst hg'
          rw [takeFrom_free HB.out (by omega)] at hr
          simp only [freeFrom, HB.out, if_true] at hf
          refine ⟨k + 1, m + 1, takeB T k, xs ++ [k], by omega, by omega, (by simp), by omega, ?_, HT3.out, (by unfold Hid; omega), ?_, ?_⟩
          · have := HM.out; unfold Hid; simp; omega
          · unfold Hid; rw [freeFrom_takeB T k hk2 hk1 g' (by omega)]; omega
          · unfold Hid
            rw [show n - (m + 1) = n - m - 1 by omega]
            simpa using hr
    · obtain rfl : m = n := by omega
      go_wp2
      go_ret2
      have hr := HR.out
      rw [Nat.sub_self, takeFrom_zero] at hr
      refine ⟨_, rfl, ?_⟩
      rw [← hr.1, ← hr.2, List.append_nil]
      exact HT.out

theorem take_ok {w : World} {p : Nat} {D : Nat → Prop} {S : Sh} (h : SheetAt w p D S) (hlen : S.was.length + 2400 < 1099511627776) (n : Nat) (hn : n ≤ freeN S) :
    Calls Try.prog 64 #[.pointer (some ⟨p, 0, none⟩), .int .i64 n] w fun e w' => ∃ v, e = .returned (.tuple #[v, .int .i64 0]) ∧ Taken w p D w' (takeFrom 255 S 1 n).1 v (takeFrom 255 S 1 n).2 :=
  take_ok0 (Taken.start h) hlen n (freeN S) 255 hn (freeTo_le S 256) (free_any h) (freeN_from S ▸ hn) rfl
end Go.Proofs.Ytfpnmphmngdkdaa
