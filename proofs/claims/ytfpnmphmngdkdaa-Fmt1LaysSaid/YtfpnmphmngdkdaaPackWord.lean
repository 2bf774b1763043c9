/-
  What Word and its reference answer, of texts that are names and of others: contracts. No condition but the reach.
-/
import Derived.Test.YtfpnmphmngdkdaaPack
import Derived.Test.YtfpnmphmngdkdaaPackGood
import Derived.Lib.BufferWrite
namespace Go.Proofs.Ytfpnmphmngdkdaa
open Go.ChangeShapes Go.WideShapes Go.ChangeAt Go.RowKit
set_option linter.unusedSimpArgs false
set_option linter.unusedVariables false

/-- A text's byte, 0 behind its end. -/
def nbyte (s : ByteArray) (i : Nat) : Nat := (s.data.toList.getD i 0).toNat
theorem nbyte_lt (s : ByteArray) (i : Nat) : nbyte s i < 256 := UInt8.toNat_lt _
theorem nbyte_at (s : ByteArray) (i : Nat) (h : i < s.size) : nbyte s i = s[i].toNat := by
  have h' : i < s.data.toList.length := by simpa using h
  unfold nbyte
  rw [List.getD_eq_getElem?_getD, List.getElem?_eq_getElem h']
  rfl
theorem nbyte_out (s : ByteArray) (i : Nat) (h : s.size ≤ i) : nbyte s i = 0 := by
  have h' : s.data.toList.length ≤ i := by simpa using h
  unfold nbyte
  rw [List.getD_eq_getElem?_getD, List.getElem?_eq_none h']
  rfl

def nlist (s : ByteArray) : List Nat := [nbyte s 0, nbyte s 1, nbyte s 2, nbyte s 3, nbyte s 4, nbyte s 5, nbyte s 6, s.size]
def nword (s : ByteArray) : Nat := PackM.join (nlist s)

theorem good_size {s : ByteArray} (h : goodB s.data.toList = true) : 1 ≤ s.size ∧ s.size ≤ 7 := by
  unfold goodB at h
  simp only [Bool.and_eq_true, decide_eq_true_eq] at h
  have e : s.data.toList.length = s.size := by simp
  rw [e] at h
  exact h.1.1.2

theorem nlist_lt {s : ByteArray} (h : s.size ≤ 7) : ∀ c ∈ nlist s, c < 256 := by
  intro c hc
  simp only [nlist, List.mem_cons, List.not_mem_nil, or_false] at hc
  rcases hc with rfl | rfl | rfl | rfl | rfl | rfl | rfl | rfl
  all_goals first | exact nbyte_lt _ _ | omega

theorem nword_lt {s : ByteArray} (h : s.size ≤ 7) : nword s < 18446744073709551616 := by
  have h1 := PackM.join_lt (nlist s) (nlist_lt h)
  have e : (nlist s).length = 8 := rfl
  rw [e] at h1
  exact Nat.lt_of_lt_of_eq h1 (by decide)

/-- copy of a text that fits into a block known whole. -/
theorem wpList_copy_text {P : Program} {w : World} {ops : Array Oper} {rest : List Oper} {o : Oper} {a : Act} {Q : Exit → Act → World → Prop} (hgd : o.guard = none) (d s : Operand) (dT sT : TypeId)
    (ho : o.op = .call { callee := .builtin .copy, args := #[d, s], argTypes := #[dT, sT] }) (elem : TypeId) (hu : P.underlying dT = some (.slice elem)) (hsz : (P.info? elem).map (·.size) = some 1)
    (g dLen dCap : Nat) (t : ByteArray) (hd : a.eval d = .slice (some ⟨g, 0, none⟩) dLen dCap) (hs : a.eval s = .string t)
    (cur : Array Value) (ty : TypeId) (hg : w.heap[g]? = some (.cells cur ty (0, 0))) (hle : t.size ≤ dLen) (hfit : t.size ≤ cur.size)
    (h : wpList P ops Q rest (a.put o.dst (goInt t.size)) (w.setRow g (Lib.byteCells t.data.toList ++ cur.toList.drop t.size).toArray)) : wpList P ops Q (o :: rest) a w := by
  refine wpList_plain hgd fun K hK => ?_
  have hrun := Lib.run_copy_row_string (P := P) w dT sT o.type elem g 0 dLen dCap t cur ty hu hsz hg hle (by omega)
  simp only [List.take_zero, List.nil_append, Nat.zero_add] at hrun
  unfold Oper.wp
  simp [execOp, ho, resolve, invoke, builtin, hd, hs, hrun, Result.andThen]
  exact hK _ _ h

def zero8 : Array Value := #[.int .u8 0, .int .u8 0, .int .u8 0, .int .u8 0, .int .u8 0, .int .u8 0, .int .u8 0, .int .u8 0]

theorem text_row (s : ByteArray) (h : s.size ≤ 7) : (Lib.byteCells s.data.toList ++ zero8.toList.drop s.size).toArray =
    #[.int .u8 (nbyte s 0), .int .u8 (nbyte s 1), .int .u8 (nbyte s 2), .int .u8 (nbyte s 3), .int .u8 (nbyte s 4), .int .u8 (nbyte s 5), .int .u8 (nbyte s 6), .int .u8 0] := by
  have e : s.size = s.data.toList.length := by simp
  unfold nbyte
  rw [e] at h ⊢
  generalize s.data.toList = l at h ⊢
  match l, h with
  | [], _ => rfl
  | [_], _ => rfl
  | [_, _], _ => rfl
  | [_, _, _], _ => rfl
  | [_, _, _, _], _ => rfl
  | [_, _, _, _, _], _ => rfl
  | [_, _, _, _, _, _], _ => rfl
  | [_, _, _, _, _, _, _], _ => rfl
  | _ :: _ :: _ :: _ :: _ :: _ :: _ :: _ :: _, h => simp at h

theorem alloc_setRow (w : World) (c cs : Array Value) (t : TypeId) : (w.alloc (.cells c t)).setRow w.heap.size cs = w.alloc (.cells cs t) := by
  have : (w.heap.push (.cells c t)).modify w.heap.size (fun | .cells _ e f => .cells cs e f | o => o) = w.heap.push (.cells cs t) := by
    apply Array.ext_getElem?
    intro i
    rw [Array.getElem?_modify]
    by_cases h : w.heap.size = i
    · subst h
      simp
    · rw [if_neg h, Array.getElem?_push, Array.getElem?_push]
      rw [if_neg (fun e => h e.symm), if_neg (fun e => h e.symm)]
  simp only [World.setRow, World.alloc]
  congr 1

theorem word_no (s : ByteArray) (hs : s.size ≤ maxLen) (hg : goodB s.data.toList = false) (w : World) :
    Calls Try.prog 123 #[.string s] w fun e w' => e = .returned (.tuple #[.int .u64 0, .bool false]) ∧ w = w' := by
  have HS := Lib.hid hs
  have HG := Lib.hid hg
  clear hs hg
  go_enter Try.func123, Try.ntmps123
  go_wp2_with (go_at_call 127; refine (good_any s HS.out _).mono ?_; rintro e w' ⟨rfl, rfl⟩; rw [HG.out])
  go_ret2
  exact ⟨rfl, rfl⟩

set_option maxRecDepth 20000 in
theorem word_yes (s : ByteArray) (hg : goodB s.data.toList = true) (w : World) :
    Calls Try.prog 123 #[.string s] w fun e w' => e = .returned (.tuple #[.int .u64 (nword s : Nat), .bool true]) ∧ Below w.heap.size w w' := by
  obtain ⟨h1, h7⟩ := good_size hg
  have HG := Lib.hid hg
  have hrow := text_row s h7
  have HR := Lib.hid hrow
  have h71 : (s.size : Int) ≤ 7 := by omega
  have HZ : Hid (s.size ≤ zero8.size) := by show s.size ≤ 8; omega
  have HH : Hid ((w.alloc (.cells #[.int .u8 0, .int .u8 0, .int .u8 0, .int .u8 0, .int .u8 0, .int .u8 0, .int .u8 0, .int .u8 0] 165)).heap[w.heap.size]? = some (.cells zero8 165 (0, 0))) := heap_alloc_new w _
  clear hg hrow
  go_enter Try.func123, Try.ntmps123
  go_wp2_with (first | (go_at_call 127; refine (good_any s (by unfold maxLen; omega) _).mono ?_; rintro e w' ⟨rfl, rfl⟩; rw [HG.out]) | (with_reducible refine wpList_copy_text (o := ⟨some 10, _, _, _, _, _⟩) rfl _ _ 65 9 rfl 5 Try.underlying65 (by kernel_rfl) w.heap.size 8 8 s rfl rfl zero8 165 HH.out (by omega) HZ.out ?_; rw [alloc_setRow, HR.out]) | (go_at_call 142; refine (join_any8 _ _ _ _ _ _ _ s.size (nbyte_lt _ _) (nbyte_lt _ _) (nbyte_lt _ _) (nbyte_lt _ _) (nbyte_lt _ _) (nbyte_lt _ _) (nbyte_lt _ _) (by omega) _).mono ?_; rintro e w1 ⟨rfl, hb1⟩))
  go_ret2
  exact ⟨rfl, ((Below.refl _ _).alloc (Nat.le_refl _) _).trans (hb1.mono (by simp))⟩

theorem join_drop (s : ByteArray) (k : Nat) (h : k < 7) : PackM.join ((nlist s).drop k) = nbyte s k + 256 * PackM.join ((nlist s).drop (k + 1)) := by
  match k, h with
  | 0, _ => rfl
  | 1, _ => rfl
  | 2, _ => rfl
  | 3, _ => rfl
  | 4, _ => rfl
  | 5, _ => rfl
  | 6, _ => rfl

theorem join_drop_lt {s : ByteArray} (h : s.size ≤ 7) (k : Nat) (hk : 1 ≤ k) (hk7 : k ≤ 7) : PackM.join ((nlist s).drop k) < 72057594037927936 := by
  have h1 := PackM.join_lt ((nlist s).drop k) (fun c hc => nlist_lt h c (List.mem_of_mem_drop hc))
  have e : ((nlist s).drop k).length = 8 - k := by rw [List.length_drop]; rfl
  rw [e] at h1
  have : 256 ^ (8 - k) ≤ 256 ^ 7 := Nat.pow_le_pow_right (by decide) (by omega)
  have e2 : 256 ^ 7 = 72057594037927936 := by decide
  omega

set_option maxRecDepth 20000 in
set_option maxHeartbeats 400000 in
theorem ref_word (s : ByteArray) (h7 : s.size ≤ 7) (w : World) :
    Calls Try.prog 92 #[.string s] w fun e w' => e = .returned (.int .u64 (nword s : Nat)) ∧ w = w' := by
  go_enter Try.func92, Try.ntmps92
  go_wp2
  go_loopg [3, 4] 7 (fun g v i wr => g ≤ 7 ∧ i = .int .i64 ((g : Int) - 1) ∧ v = .int .u64 (PackM.join ((nlist s).drop g) : Nat) ∧ w = wr)
  case atStart => exact ⟨by omega, rfl, rfl, rfl⟩
  case round =>
    obtain ⟨hg, rfl, rfl, rfl⟩ := hrel
    by_cases h0 : 1 ≤ gk
    · obtain ⟨k, rfl⟩ : ∃ k, gk = k + 1 := ⟨gk - 1, by omega⟩
      have hj := join_drop s k (by omega)
      have hl := join_drop_lt h7 (k + 1) (by omega) hg
      have hb := nbyte_lt s k
      have e1 : (((k + 1 : Nat) : Int) - 1) = (k : Int) := by omega
      rw [e1]
      generalize PackM.join ((nlist s).drop (k + 1)) = y at hj hl
      have HJ := Lib.hid hj
      have hy : (y : Int) < 72057594037927936 := by omega
      clear hj hl e1
      by_cases hk : k < s.size
      · have hbv := nbyte_at s k hk
        have HB := Lib.hid hbv
        have hb' : (s[k].toNat : Int) < 256 := by rw [← hbv]; omega
        clear hbv hb
        go_wp2
        go_roundg k
        case measure => omega
        case rel => exact ⟨by omega, by go_num, by rw [HJ.out, HB.out]; go_num, rfl⟩
      · have hbv := nbyte_out s k (by omega)
        have HB := Lib.hid hbv
        clear hbv hb
        go_wp2
        go_roundg k
        case measure => omega
        case rel => exact ⟨by omega, by go_num, by rw [HJ.out, HB.out]; go_num, rfl⟩
    · obtain rfl : gk = 0 := by omega
      go_wp2
      go_ret
      exact ⟨rfl, rfl⟩
end Go.Proofs.Ytfpnmphmngdkdaa
