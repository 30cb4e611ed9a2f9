/- A file's name: letters, digits, dots and dashes, one to sixteen. -/
import Derived.Test.YtopabknlgmihpaaDBase
import Derived.Shelf.GgClosure.StringsIndexFunc
namespace Go.Proofs.Ytopabknlgmihpaa
open Go Go.RowKit Go.MapKept Go.ChangeMaps Go.Maps Go.Lib

def okN (x : Nat) : Bool := (decide (97 ≤ x) && decide (x ≤ 122)) || (decide (48 ≤ x) && decide (x ≤ 57)) || decide (x = 46) || decide (x = 45)
def nameB (s : ByteArray) : Bool := decide (1 ≤ s.size) && decide (s.size ≤ 16) && s.data.toList.all (fun c => okN c.toNat)
theorem okN_high {x : Nat} (h : 128 ≤ x) : okN x = false := by
  unfold okN
  simp
  omega
theorem get_at (s : ByteArray) (i : Nat) (h : i < s.size) : (s.get! i) = s.data.toList[i]'(by simpa using h) := by
  have h2 : i < s.data.size := h
  show s.data[i]! = _
  rw [getElem!_pos s.data i h2]
  simp
theorem dec_low (s : ByteArray) (i : Nat) (h : (s.get! i).toNat < 128) : Utf8.decode s i = ((s.get! i).toNat, 1) := by
  unfold Utf8.decode
  simp only [Nat.add_zero]
  rw [if_pos h]
theorem dec_high (s : ByteArray) (i : Nat) (h : 128 ≤ (s.get! i).toNat) : 128 ≤ (Utf8.decode s i).1 := by
  unfold Utf8.decode
  simp only [Nat.add_zero]
  rw [if_neg (by omega)]
  repeat' split
  all_goals (try (unfold Utf8.runeError; omega))
  all_goals simp_all
  all_goals omega
theorem idx_names (s : ByteArray) : ∀ (f pos : Nat), s.size ≤ pos + f → (idxFuncFrom (fun x => !okN x) true s f pos = -1 ↔ ∀ c ∈ s.data.toList.drop pos, okN c.toNat = true)
  | 0, pos, h => by
    have : s.data.toList.drop pos = [] := List.drop_eq_nil_of_le (by simp at *; omega)
    rw [this]
    simp [idxFuncFrom]
  | f + 1, pos, h => by
    unfold idxFuncFrom
    by_cases hp : pos < s.size
    · have hpl : pos < s.data.toList.length := by simpa using hp
      rw [if_pos hp, List.drop_eq_getElem_cons hpl]
      have hg := get_at s pos hp
      by_cases hb : (s.get! pos).toNat < 128
      · rw [dec_low s pos hb]
        simp only
        by_cases hk : okN (s.get! pos).toNat = true
        · rw [if_neg (by rw [hk]; simp), idx_names s f (pos + 1) (by omega)]
          rw [hg] at hk
          constructor
          · intro h1 c hc
            rcases List.mem_cons.1 hc with rfl | hc
            · exact hk
            · exact h1 c hc
          · intro h1 c hc
            exact h1 c (List.mem_cons_of_mem _ hc)
        · rw [if_pos (by simpa using hk)]
          constructor
          · intro h1; omega
          · intro h1
            exact absurd (by rw [hg]; exact h1 _ (List.mem_cons_self)) hk
      · have hh := dec_high s pos (by omega)
        rw [if_pos (by rw [okN_high hh]; rfl)]
        constructor
        · intro h1; omega
        · intro h1
          have h2 := h1 _ (List.mem_cons_self)
          rw [← hg, okN_high (by omega)] at h2
          cases h2
    · rw [if_neg hp]
      have : s.data.toList.drop pos = [] := List.drop_eq_nil_of_le (by simp at *; omega)
      rw [this]
      simp
theorem contains_names (s : ByteArray) : decide (0 ≤ idxFunc (fun x => !okN x) true s) = !(s.data.toList.all (fun c => okN c.toNat)) := by
  have h1 := idx_names s s.size 0 (by omega)
  have h2 := idxFunc_range (fun x => !okN x) true s
  unfold idxFunc at *
  rw [List.drop_zero] at h1
  by_cases h : idxFuncFrom (fun x => !okN x) true s s.size 0 = -1
  · have h3 : s.data.toList.all (fun c => okN c.toNat) = true := List.all_eq_true.2 (h1.1 h)
    rw [h3, h]
    rfl
  · have h3 : s.data.toList.all (fun c => okN c.toNat) = false := by
      rw [← Bool.not_eq_true, List.all_eq_true]
      exact fun h4 => h (h1.2 h4)
    rw [h3]
    rcases h2 with h2 | h2
    · exact absurd h2 h
    · simp; omega
end Go.Proofs.Ytopabknlgmihpaa
