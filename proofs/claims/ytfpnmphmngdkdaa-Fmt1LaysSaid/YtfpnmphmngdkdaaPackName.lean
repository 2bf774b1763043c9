/-
  What pack.Name, pack.Sum, pack.Bucket, and the reference's Sum and Byte answer: contracts. No condition but the bounds that are typed.
-/
import Derived.Test.YtfpnmphmngdkdaaPackWord
namespace Go.Proofs.Ytfpnmphmngdkdaa
open Go.ChangeShapes Go.WideShapes Go.ChangeAt Go.RowKit
set_option linter.unusedSimpArgs false
set_option linter.unusedVariables false

/-- A text of bytes. -/
def bstr (l : List Nat) : ByteArray := ⟨(l.map UInt8.ofNat).toArray⟩
theorem bstr_size (l : List Nat) : (bstr l).size = l.length := by
  show (l.map UInt8.ofNat).toArray.size = _
  simp

theorem bstr_foldl (l : List Nat) : (l.map (fun c : Nat => (c : Int))).foldl (fun (r : ByteArray) (n : Int) => r.push (UInt8.ofNat n.toNat)) ByteArray.empty = bstr l := by
  have h : ∀ (l : List Nat) (r : ByteArray), (l.map (fun c : Nat => (c : Int))).foldl (fun (r : ByteArray) (n : Int) => r.push (UInt8.ofNat n.toNat)) r = ⟨r.data ++ (l.map UInt8.ofNat).toArray⟩ := by
    intro l
    induction l with
    | nil => intro r; simp
    | cons c l ih =>
      intro r
      simp only [List.map_cons, List.foldl_cons, ih, Int.toNat_natCast]
      simp [ByteArray.push]
  rw [h]
  simp [bstr]

/-- string(b[:n]): the bytes that lie there. -/
theorem wpList_bytes_text {P : Program} {w : World} {ops : Array Oper} {rest : List Oper} {o : Oper} {a : Act} {Q : Exit → Act → World → Prop} (hgd : o.guard = none) (x : Operand) (src dst e : TypeId)
    (ho : o.op = .convert src dst x) (hs : P.underlying src = some (.slice e)) (he : P.underlying e = some (.int .u8)) (hd : P.underlying dst = some .string)
    (ad : Addr) (len cap : Nat) (hx : a.eval x = .slice (some ad) len cap) (l : List Nat) (hl : l.length = len) (hc : ∀ j (h : j < l.length), w.cell? (ad.add j) = some (.int .u8 (l[j] : Nat)))
    (h : wpList P ops Q rest (a.put o.dst (.string (bstr l))) w) : wpList P ops Q (o :: rest) a w := by
  refine wpList_plain hgd fun K hK => ?_
  have hlc : (loadCells ad (l.map (fun c : Nat => Value.int .u8 (c : Int))).length).run P w = .ok (l.map (fun c : Nat => Value.int .u8 (c : Int))).toArray w :=
    run_loadCells_list (P := P) w ad _ (fun j v hv => by
      have hj : j < l.length := by
        have := (List.getElem?_eq_some_iff.1 hv).1
        simpa using this
      have e2 : (l.map (fun c : Nat => Value.int .u8 (c : Int)))[j]? = some (.int .u8 (l[j] : Nat)) := by simp [hj]
      rw [e2] at hv
      rw [hc j hj]
      exact hv)
  have hlc2 : (loadCells ad len).run P w = .ok ((l.map (fun c : Nat => (c : Int))).map (Value.int .u8)).toArray w := by
    rw [List.length_map, hl] at hlc
    rw [hlc]
    simp [List.map_map, Function.comp_def]
  have hrun := (run_convert_bytes_string (P := P) w src dst e (some ad) len cap hs he hd).trans (run_bytesToString w ad len cap (l.map (fun c : Nat => (c : Int))) hlc2)
  rw [bstr_foldl] at hrun
  unfold Oper.wp
  simp [execOp, ho, hx, hrun, Result.andThen]
  exact hK _ _ h

theorem bytesTake_cell (x n : Nat) (hn : n ≤ 7) (j : Nat) (h : j < ((PackM.bytes x).take n).length) (w : World) (g : Nat)
    (hg : w.heap[g]? = some (.cells #[Value.int IntKind.u8 (PackM.byteAt x 0 : Nat), Value.int IntKind.u8 (PackM.byteAt x 1 : Nat), Value.int IntKind.u8 (PackM.byteAt x 2 : Nat), Value.int IntKind.u8 (PackM.byteAt x 3 : Nat), Value.int IntKind.u8 (PackM.byteAt x 4 : Nat), Value.int IntKind.u8 (PackM.byteAt x 5 : Nat), Value.int IntKind.u8 (PackM.byteAt x 6 : Nat), Value.int IntKind.u8 (PackM.byteAt x 7 : Nat)] 165 (0, 0))) :
    w.cell? ((⟨g, 0, none⟩ : Addr).add j) = some (.int .u8 (((PackM.bytes x).take n)[j] : Nat)) := by
  have hadd : (⟨g, 0, none⟩ : Addr).add j = ⟨g, j, none⟩ := by unfold Addr.add; split <;> simp_all
  rw [hadd, cell_of_row _ _ _ _ _ _ hg]
  have hj : j < 7 := by simp at h; omega
  rw [List.getElem_take]
  match j, hj with
  | 0, _ => rfl
  | 1, _ => rfl
  | 2, _ => rfl
  | 3, _ => rfl
  | 4, _ => rfl
  | 5, _ => rfl
  | 6, _ => rfl

/-- The text that a word's bytes say. -/
def wtext (x : Nat) : ByteArray := bstr ((PackM.bytes x).take (PackM.byteAt x 7))

/-- Is a word a name's? -/
def isName (x : Nat) : Bool := decide (PackM.byteAt x 7 ≤ 7) && goodB (wtext x).data.toList && decide (nword (wtext x) = x)

/-- What Name answers. -/
def nameRes (x : Nat) : Value := .tuple #[.string (if isName x = true then wtext x else ⟨#[]⟩), .bool (isName x)]
theorem nameRes_no {x : Nat} (h : isName x = false) : nameRes x = .tuple #[.string ⟨#[]⟩, .bool false] := by simp [nameRes, h]
theorem nameRes_yes {x : Nat} (h : isName x = true) : nameRes x = .tuple #[.string (wtext x), .bool true] := by simp [nameRes, h]

set_option maxRecDepth 20000 in
set_option maxHeartbeats 800000 in
theorem name_any (x : Nat) (hx : x < 18446744073709551616) (w : World) :
    Calls Try.prog 125 #[.int .u64 x] w fun e w' => e = .returned (nameRes x) ∧ Below w.heap.size w w' := by
  have hn : ∀ j : Nat, PackM.byteAt x j < 256 := PackM.byteAt_lt x
  have hb7 : ((PackM.byteAt x 7 : Nat) : Int) < 256 := by have := hn 7; omega
  clear hn
  by_cases h7 : PackM.byteAt x 7 ≤ 7
  · have hlen : ((PackM.bytes x).take (PackM.byteAt x 7)).length = PackM.byteAt x 7 := by rw [List.length_take, PackM.bytes_length]; omega
    have HL := Lib.hid hlen
    clear hlen
    have hsz : (wtext x).size ≤ maxLen := by
      unfold wtext
      rw [bstr_size, HL.out]
      unfold maxLen
      omega
    have HSZ := Lib.hid hsz
    clear hsz
    have h78 : ((PackM.byteAt x 7 : Nat) : Int) ≤ 8 := by omega
    have h77 : ((PackM.byteAt x 7 : Nat) : Int) ≤ 7 := by omega
    have h70 : (0 : Int) ≤ ((PackM.byteAt x 7 : Nat) : Int) := by omega
    have HCELL : Hid (∀ (w : World) (g : Nat), w.heap[g]? = some (.cells #[Value.int IntKind.u8 (PackM.byteAt x 0 : Nat), Value.int IntKind.u8 (PackM.byteAt x 1 : Nat), Value.int IntKind.u8 (PackM.byteAt x 2 : Nat), Value.int IntKind.u8 (PackM.byteAt x 3 : Nat), Value.int IntKind.u8 (PackM.byteAt x 4 : Nat), Value.int IntKind.u8 (PackM.byteAt x 5 : Nat), Value.int IntKind.u8 (PackM.byteAt x 6 : Nat), Value.int IntKind.u8 (PackM.byteAt x 7 : Nat)] 165 (0, 0)) → ∀ j (h : j < ((PackM.bytes x).take (PackM.byteAt x 7)).length), w.cell? ((⟨g, 0, none⟩ : Addr).add j) = some (.int .u8 (((PackM.bytes x).take (PackM.byteAt x 7))[j] : Nat))) :=
      fun w g hg j h => bytesTake_cell x _ h7 j h w g hg
    cases hg : goodB (wtext x).data.toList with
    | false =>
      have HI : Hid (isName x = false) := by simp [Hid, isName, hg]
      have HG := Lib.hid hg
      clear hg
      go_enter Try.func125, Try.ntmps125
      go_wp2_with (first | (go_at_call 141; refine (bytes_any x hx _).mono ?_; rintro e w1 ⟨rfl, hb1⟩) | (with_reducible refine wpList_bytes_text (o := ⟨some 18, _, _, _, _, _⟩) rfl _ 65 9 5 rfl Try.underlying65 Try.underlying5 Try.underlying9 ⟨w1.heap.size, 0, none⟩ _ _ rfl ((PackM.bytes x).take (PackM.byteAt x 7)) HL.out (HCELL.out _ _ (heap_alloc_new _ _)) ?_) | (go_at_call 123; refine (word_no (wtext x) HSZ.out HG.out _).mono ?_; rintro e w' ⟨rfl, rfl⟩))
      go_ret2
      rw [nameRes_no HI.out]
      exact ⟨rfl, hb1.alloc hb1.size _⟩
    | true =>
      have HG := Lib.hid hg
      have hlt := nword_lt (good_size hg).2
      by_cases he : nword (wtext x) = x
      · have HI : Hid (isName x = true) := by simp [Hid, isName, hg, he, h7]
        have HE := Lib.hid he
        have hxx : ((x : Int) != (x : Int)) = false := by simp
        clear hg he hlt
        go_enter Try.func125, Try.ntmps125
        go_wp2_with (first | (go_at_call 141; refine (bytes_any x hx _).mono ?_; rintro e w1 ⟨rfl, hb1⟩) | (with_reducible refine wpList_bytes_text (o := ⟨some 18, _, _, _, _, _⟩) rfl _ 65 9 5 rfl Try.underlying65 Try.underlying5 Try.underlying9 ⟨w1.heap.size, 0, none⟩ _ _ rfl ((PackM.bytes x).take (PackM.byteAt x 7)) HL.out (HCELL.out _ _ (heap_alloc_new _ _)) ?_) | (go_at_call 123; refine (word_yes (wtext x) HG.out _).mono ?_; rintro e w2 ⟨rfl, hb2⟩; rw [HE.out]))
        go_ret2
        rw [nameRes_yes HI.out]
        exact ⟨rfl, (hb1.alloc hb1.size _).trans (hb2.mono (by have := hb1.size; simp; omega))⟩
      · have HI : Hid (isName x = false) := by simp [Hid, isName, he]
        have hne : (((nword (wtext x) : Nat) : Int) != (x : Int)) = true := by
          rw [bne_iff_ne]; omega
        have HW := Lib.hid (fun (w : World) => word_yes (wtext x) hg w)
        generalize nword (wtext x) = y at hne HW hlt
        clear hg he
        go_enter Try.func125, Try.ntmps125
        go_wp2_with (first | (go_at_call 141; refine (bytes_any x hx _).mono ?_; rintro e w1 ⟨rfl, hb1⟩) | (with_reducible refine wpList_bytes_text (o := ⟨some 18, _, _, _, _, _⟩) rfl _ 65 9 5 rfl Try.underlying65 Try.underlying5 Try.underlying9 ⟨w1.heap.size, 0, none⟩ _ _ rfl ((PackM.bytes x).take (PackM.byteAt x 7)) HL.out (HCELL.out _ _ (heap_alloc_new _ _)) ?_) | (go_at_call 123; refine (HW.out _).mono ?_; rintro e w2 ⟨rfl, hb2⟩))
        go_ret2
        rw [nameRes_no HI.out]
        exact ⟨rfl, (hb1.alloc hb1.size _).trans (hb2.mono (by have := hb1.size; simp; omega))⟩
  · have HI : Hid (isName x = false) := by simp [Hid, isName, h7]
    have h78 : 7 < ((PackM.byteAt x 7 : Nat) : Int) := by omega
    go_enter Try.func125, Try.ntmps125
    go_wp2_with (go_at_call 141; refine (bytes_any x hx _).mono ?_; rintro e w1 ⟨rfl, hb1⟩)
    go_ret2
    rw [nameRes_no HI.out]
    exact ⟨rfl, hb1.alloc hb1.size _⟩
end Go.Proofs.Ytfpnmphmngdkdaa
