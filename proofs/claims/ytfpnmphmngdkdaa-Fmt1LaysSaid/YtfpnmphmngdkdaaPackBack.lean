/-
  A name's word says that name again: plain lemmas.
-/
import Derived.Test.YtfpnmphmngdkdaaPackName
namespace Go.Proofs.Ytfpnmphmngdkdaa
set_option linter.unusedSimpArgs false
set_option linter.unusedVariables false

theorem bytes_join (l : List Nat) (hl : l.length = 8) (h : ∀ c ∈ l, c < 256) : PackM.bytes (PackM.join l) = l := by
  simp only [PackM.bytes, PackM.byteAt_join l _ h]
  match l, hl with
  | [a, b, c, d, e, f, g, k], _ => rfl

theorem bytes_nword {s : ByteArray} (h : s.size ≤ 7) : PackM.bytes (nword s) = nlist s := bytes_join _ rfl (nlist_lt h)

theorem byte7_nword {s : ByteArray} (h : s.size ≤ 7) : PackM.byteAt (nword s) 7 = s.size := by
  unfold nword
  rw [PackM.byteAt_join _ _ (nlist_lt h)]
  rfl

theorem ofNat_nbyte (s : ByteArray) (i : Nat) (h : i < s.data.toList.length) : UInt8.ofNat (nbyte s i) = s.data.toList[i] := by
  unfold nbyte
  rw [List.getD_eq_getElem?_getD, List.getElem?_eq_getElem h]
  simp

theorem wtext_nword {s : ByteArray} (h : s.size ≤ 7) : wtext (nword s) = s := by
  unfold wtext
  rw [bytes_nword h, byte7_nword h]
  have e : ((nlist s).take s.size).map UInt8.ofNat = s.data.toList := by
    apply List.ext_getElem
    · simp [nlist]; omega
    · intro i h1 h2
      have hi : i < s.size := by simpa using h2
      rw [← ofNat_nbyte s i h2, List.getElem_map, List.getElem_take]
      congr 1
      have hi7 : i < 7 := by omega
      match i, hi7 with
      | 0, _ => rfl
      | 1, _ => rfl
      | 2, _ => rfl
      | 3, _ => rfl
      | 4, _ => rfl
      | 5, _ => rfl
      | 6, _ => rfl
  unfold bstr
  rw [e]

theorem isName_nword {s : ByteArray} (hg : goodB s.data.toList = true) : isName (nword s) = true := by
  have h := (good_size hg).2
  unfold isName
  rw [wtext_nword h, hg, byte7_nword h]
  simp [h]

end Go.Proofs.Ytfpnmphmngdkdaa
