/-
  The calls of imagoref01 in a slice that is handed in; imagoref01.Few: a contract. No condition.
-/
import Derived.Test.YtfpnmphmngdkdaaBytes
namespace Go.Proofs.Ytfpnmphmngdkdaa
open Go.ChangeShapes Go.WideShapes Go.ChangeAt Go.RowKit Go.Deep
set_option linter.unusedSimpArgs false
set_option linter.unusedVariables false

structure OpV where
  kind : Nat
  i : Int
  n : Int
  word : Int
  keep : List Nat
instance : Inhabited OpV := ⟨⟨0, 0, 0, 0, []⟩⟩

structure OpV.Ok (x : OpV) : Prop where
  kind : x.kind < 256
  i : -9223372036854775808 ≤ x.i ∧ x.i ≤ 9223372036854775807
  n : -9223372036854775808 ≤ x.n ∧ x.n ≤ 9223372036854775807
  word : 0 ≤ x.word ∧ x.word < 18446744073709551616

structure OpAt (w : World) (g o : Nat) (x : OpV) (kv : Value) : Prop where
  kind : w.cell? ⟨g, o, none⟩ = some (.int .u8 (x.kind : Nat))
  i : w.cell? ⟨g, o + 1, none⟩ = some (.int .i64 x.i)
  n : w.cell? ⟨g, o + 2, none⟩ = some (.int .i64 x.n)
  word : w.cell? ⟨g, o + 3, none⟩ = some (.int .u64 x.word)
  keep : w.cell? ⟨g, o + 4, none⟩ = some kv
  bytes : HoldsB w kv x.keep
  ok : x.Ok

theorem OpAt.below {w w' : World} {g o : Nat} {x : OpV} {kv : Value} (h : OpAt w g o x kv) (hb : Below w.heap.size w w') : OpAt w' g o x kv := by
  have hg : ∀ {a : Addr} {v : Value}, w.cell? a = some v → w'.cell? a = some v := fun {a v} hc => (mod_of_below hb).cell hc (fun hd => hd)
  exact ⟨hg h.kind, hg h.i, hg h.n, hg h.word, hg h.keep, h.bytes.below hb, h.ok⟩

def HoldsO1 (w : World) (v : Value) (l : List OpV) : Prop :=
  ∃ ao cap, v = .slice ao l.length cap ∧ l.length ≤ cap ∧ cap ≤ maxLen ∧ ∀ j, j < l.length → ∃ g o kv, ao = some ⟨g, o, none⟩ ∧ OpAt w g (o + j * 5) (l.getD j default) kv

theorem HoldsO1.below {w w' : World} {v : Value} {l : List OpV} (h : HoldsO1 w v l) (hb : Below w.heap.size w w') : HoldsO1 w' v l := by
  obtain ⟨ao, cap, rfl, h1, h2, h3⟩ := h
  refine ⟨ao, cap, rfl, h1, h2, fun j hj => ?_⟩
  obtain ⟨g, o, kv, rfl, hc⟩ := h3 j hj
  exact ⟨g, o, kv, rfl, hc.below hb⟩

set_option maxRecDepth 100000 in
theorem open_ops1 {H : Type} {enc : TypeId × Value → H} {W : World} {r : Reach} {base b0 : Nat} {sp : Nat → Bool} {held : Bool} {v : Value} {d : DataW H} {p : List MemPlace}
    (hok : Value.okWide Try.prog W r b0 64 v) (h : DataW.Trod enc Try.prog W base sp held 64 v d p) :
    ∃ l : List OpV, HoldsO1 W v l := by
  obtain ⟨ao, len, cap, rfl, h1, h2, h3, h4⟩ := open_rows Try.underlying64 Try.underlying69 (by kernel_rfl) (by kernel_rfl) (Nat.zero_lt_succ _) hok h
  obtain ⟨l, hl, hp⟩ := list_of default (P := fun j (x : OpV) => ∃ g o kv, ao = some ⟨g, o, none⟩ ∧ OpAt W g (o + j * 5) x kv) len (by
    intro j hj
    obtain ⟨g, o, ha, hc⟩ := h4 j hj
    obtain ⟨c0, y0, n0, e0, t0⟩ := hc 0 _ rfl
    obtain ⟨c1, y1, n1, e1, t1⟩ := hc 1 _ rfl
    obtain ⟨c2, y2, n2, e2, t2⟩ := hc 2 _ rfl
    obtain ⟨c3, y3, n3, e3, t3⟩ := hc 3 _ rfl
    obtain ⟨c4, y4, n4, e4, t4⟩ := hc 4 _ rfl
    obtain ⟨z0, rfl, w0⟩ := int_of Try.underlying5 t0
    obtain ⟨z1, rfl, w1⟩ := int_of Try.underlying3 t1
    obtain ⟨z2, rfl, w2⟩ := int_of Try.underlying3 t2
    obtain ⟨z3, rfl, w3⟩ := int_of Try.underlying41 t3
    obtain ⟨k, hk⟩ := bytes_of Try.underlying65 Try.underlying5 (by kernel_rfl) t4
    obtain ⟨a0, a1⟩ := wf_u8 w0
    obtain ⟨m0, rfl⟩ := Int.eq_ofNat_of_zero_le a0
    exact ⟨⟨m0, z1, z2, z3, k⟩, g, o, c4, ha, e0, e1, e2, e3, e4, hk, ⟨by simp only; omega, wf_i64 w1, wf_i64 w2, wf_u64 w3⟩⟩)
  rw [← hl] at hp h1 ⊢
  exact ⟨l, ao, cap, rfl, h1, h2, hp⟩

/-- What Few answers. -/
def FewPost (l : List OpV) (n : Int) (e : Ending) : Prop := ∃ b, e = .returned (.bool b) ∧ (b = true → (l.length : Int) ≤ n ∧ ∀ j, j < l.length → j < 300 → (l.getD j default).keep.length ≤ 100)

set_option maxRecDepth 20000 in
/-- imagoref01.Few: calls of a size that is looked at. -/
theorem few1 {w : World} {v : Value} {l : List OpV} (h : HoldsO1 w v l) (n : Int) :
    Calls Try.prog 44 #[v, .int .i64 n] w fun e w' => w = w' ∧ FewPost l n e := by
  obtain ⟨ao, cap, rfl, h1, h2, h3⟩ := h
  obtain ⟨m, hm⟩ : ∃ m, m = l.length := ⟨_, rfl⟩
  rw [← hm] at h1 h3 ⊢
  have H3 := Lib.hid h3
  have HM := Lib.hid hm
  clear h3 hm
  go_enter Try.func44, Try.ntmps44
  go_wp2_with fail
  go_loopg [5] 300 (fun gk kv wr => ∃ k : Nat, k + gk = 300 ∧ kv = .int .i64 k ∧ k ≤ m ∧ Hid (∀ j, j < k → (l.getD j default).keep.length ≤ 100) ∧ w = wr)
  case atStart => exact ⟨0, by omega, rfl, by omega, (fun j hj => by omega), rfl⟩
  case round =>
    obtain ⟨k, hk, rfl, hkm, HP, rfl⟩ := hrel
    by_cases hlt : k < m ∧ k < 300
    · obtain ⟨hl1, hl2⟩ := hlt
      have hlt1 : (k : Int) < (m : Int) := by omega
      have hlt2 : (k : Int) < 300 := by omega
      obtain ⟨g, o, kv, rfl, hop⟩ := H3.out k hl1
      obtain ⟨ka, kc, rfl, k1, k2, -⟩ := hop.bytes
      have c4 := hop.keep
      obtain ⟨q, hq⟩ : ∃ q, q = (l.getD k default).keep.length := ⟨_, rfl⟩
      rw [← hq] at c4 k1
      have HQ := Lib.hid hq
      clear hop hq
      by_cases hq2 : 100 < q
      · have hqi : (100 : Int) < (q : Int) := by omega
        go_wp2
        go_ret
        exact ⟨rfl, false, rfl, fun h => by cases h⟩
      · have hqi : ¬ (100 : Int) < (q : Int) := by omega
        go_wp2_with fail
        go_roundg (gk - 1)
        case measure => omega
        case rel =>
          refine ⟨k + 1, by omega, by go_num, by omega, fun j hj => ?_, rfl⟩
          by_cases e : j = k
          · subst e
            rw [← HQ.out]
            omega
          · exact HP.out j (by omega)
    · rcases (show (k = m ∧ k < 300) ∨ k = 300 by omega) with ⟨he, he2⟩ | he
      · have hge : ¬ (k : Int) < (m : Int) := by omega
        go_wp2
        go_ret
        exact ⟨rfl, _, rfl, fun hb => ⟨by rw [← HM.out]; simpa using hb, fun j hj _ => HP.out j (by have := HM.out; omega)⟩⟩
      · subst he
        by_cases hge : ((300 : Nat) : Int) < (m : Int)
        · go_wp2
          go_ret
          exact ⟨rfl, _, rfl, fun hb => ⟨by rw [← HM.out]; simpa using hb, fun j hj hj2 => HP.out j (by have := HM.out; omega)⟩⟩
        · go_wp2
          go_ret
          exact ⟨rfl, _, rfl, fun hb => ⟨by rw [← HM.out]; simpa using hb, fun j hj hj2 => HP.out j (by have := HM.out; omega)⟩⟩
end Go.Proofs.Ytfpnmphmngdkdaa
