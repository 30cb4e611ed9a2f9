/- The document's disk: name, drop. -/
import Derived.Test.YtopabknlgmihpaaRef12B
namespace Go.Proofs.Ytopabknlgmihpaa
open Go Go.RowKit Go.MapKept Go.ChangeMaps Go.Maps

theorem nameB_bad {s : ByteArray} {k : Nat} (hk : k < s.data.toList.length) (h : okN (s.data.toList[k]).toNat = false) : nameB s = false := by
  unfold nameB
  have : s.data.toList.all (fun c => okN c.toNat) = false := by
    rw [List.all_eq_false]
    exact ⟨_, List.getElem_mem hk, by rw [h]; simp⟩
  rw [this, Bool.and_false]
theorem nameB_ok {s : ByteArray} (h : ∀ c ∈ s.data.toList, okN c.toNat = true) : nameB s = (decide (1 ≤ s.size) && decide (s.size ≤ 16)) := by
  unfold nameB
  rw [List.all_eq_true.2 h, Bool.and_true]
set_option maxRecDepth 100000 in
set_option maxHeartbeats 3200000 in
theorem RefName_any (w : World) (s : ByteArray) (hsz : s.size ≤ maxLen) : Calls Try.prog 65 #[.string s] w fun e w' => e = .returned (.bool (nameB s)) ∧ Ext w w' := by
  unfold maxLen at hsz
  have hlen : s.data.toList.length = s.size := by rw [Array.length_toList]; rfl
  go_enter Try.func65, Try.ntmps65
  go_wp2
  go_loopw [3] (fun s3 wr => ∃ k : Nat, k ≤ s.size ∧ s3 = .int .i64 k ∧ (∀ c ∈ s.data.toList.take k, okN c.toNat = true) ∧ Ext w wr) (fun s3 _ => s.size - (intOf s3).toNat)
  case atStart => exact ⟨0, Nat.zero_le _, rfl, fun c hc => by simp at hc, Ext.refl _⟩
  case round =>
    obtain ⟨k, hk, rfl, hno, hE⟩ := hrel
    by_cases hlt : k < s.size
    · have hkl : k < s.data.toList.length := by omega
      have hg : s[k]'hlt = s.data.toList[k] := by rw [Array.getElem_toList]; rfl
      have htk : s.data.toList.take (k + 1) = s.data.toList.take k ++ [s.data.toList[k]] := List.take_succ_eq_append_getElem hkl
      have HNO : Hid (okN (s.data.toList[k]).toNat = true → ∀ c ∈ s.data.toList.take (k + 1), okN c.toNat = true) := fun h0 c hc => by
        rw [htk] at hc
        rcases List.mem_append.1 hc with hc | hc
        · exact hno c hc
        · rw [List.mem_singleton] at hc; subst hc; exact h0
      have HBAD := hid (nameB_bad hkl)
      have HE := hid hE
      rw [← hg] at HNO HBAD
      obtain ⟨x, hx⟩ : ∃ x, (s[k]'hlt).toNat = x := ⟨_, rfl⟩
      rw [hx] at HNO HBAD
      clear hno htk hE hg hkl hlen
      have hcases : (97 ≤ x ∧ x ≤ 122) ∨ 122 < x ∨ (57 < x ∧ x < 97) ∨ (48 ≤ x ∧ x ≤ 57) ∨ x = 46 ∨ x = 45 ∨ (x < 48 ∧ x ≠ 46 ∧ x ≠ 45) := by omega
      rcases hcases with h1 | h1 | h1 | h1 | h1 | h1 | h1
      · have hok : okN x = true := by unfold okN; simp; omega
        have HN : Hid (∀ c ∈ s.data.toList.take (k + 1), okN c.toNat = true) := fun c hc => HNO.out hok c hc
        clear hok
        have ta : (97 : Int) ≤ (x : Int) := by omega
        have tb : (x : Int) ≤ 122 := by omega
        go_wp2_with fail
        go_roundw
        case rel => exact ⟨k + 1, by omega, by go_num, HN.out, HE.out⟩
        case measure => simp [intOf]; omega
      · have hok : okN x = false := by unfold okN; simp; omega
        have HN := hid (HBAD.out hok)
        clear hok
        have ta : (97 : Int) ≤ (x : Int) := by omega
        have tb : ¬ (x : Int) ≤ 122 := by omega
        have tc : (48 : Int) ≤ (x : Int) := by omega
        have td : ¬ (x : Int) ≤ 57 := by omega
        have t46 : ((x : Int) == 46) = false := by simp; omega
        have t45 : ((x : Int) == 45) = false := by simp; omega
        go_wp2_with fail
        go_ret
        exact ⟨by rw [HN.out]; rfl, HE.out⟩
      · have hok : okN x = false := by unfold okN; simp; omega
        have HN := hid (HBAD.out hok)
        clear hok
        have ta : ¬ (97 : Int) ≤ (x : Int) := by omega
        have tc : (48 : Int) ≤ (x : Int) := by omega
        have td : ¬ (x : Int) ≤ 57 := by omega
        have t46 : ((x : Int) == 46) = false := by simp; omega
        have t45 : ((x : Int) == 45) = false := by simp; omega
        go_wp2_with fail
        go_ret
        exact ⟨by rw [HN.out]; rfl, HE.out⟩
      · have hok : okN x = true := by unfold okN; simp; omega
        have HN : Hid (∀ c ∈ s.data.toList.take (k + 1), okN c.toNat = true) := fun c hc => HNO.out hok c hc
        clear hok
        have ta : ¬ (97 : Int) ≤ (x : Int) := by omega
        have tc : (48 : Int) ≤ (x : Int) := by omega
        have td : (x : Int) ≤ 57 := by omega
        go_wp2_with fail
        go_roundw
        case rel => exact ⟨k + 1, by omega, by go_num, HN.out, HE.out⟩
        case measure => simp [intOf]; omega
      · have hok : okN x = true := by unfold okN; simp; omega
        have HN : Hid (∀ c ∈ s.data.toList.take (k + 1), okN c.toNat = true) := fun c hc => HNO.out hok c hc
        clear hok
        have ta : ¬ (97 : Int) ≤ (x : Int) := by omega
        have tc : ¬ (48 : Int) ≤ (x : Int) := by omega
        have t46 : ((x : Int) == 46) = true := by simp; omega
        go_wp2_with fail
        go_roundw
        case rel => exact ⟨k + 1, by omega, by go_num, HN.out, HE.out⟩
        case measure => simp [intOf]; omega
      · have hok : okN x = true := by unfold okN; simp; omega
        have HN : Hid (∀ c ∈ s.data.toList.take (k + 1), okN c.toNat = true) := fun c hc => HNO.out hok c hc
        clear hok
        have ta : ¬ (97 : Int) ≤ (x : Int) := by omega
        have tc : ¬ (48 : Int) ≤ (x : Int) := by omega
        have t46 : ((x : Int) == 46) = false := by simp; omega
        have t45 : ((x : Int) == 45) = true := by simp; omega
        go_wp2_with fail
        go_roundw
        case rel => exact ⟨k + 1, by omega, by go_num, HN.out, HE.out⟩
        case measure => simp [intOf]; omega
      · have hok : okN x = false := by unfold okN; simp; omega
        have HN := hid (HBAD.out hok)
        clear hok
        have ta : ¬ (97 : Int) ≤ (x : Int) := by omega
        have tc : ¬ (48 : Int) ≤ (x : Int) := by omega
        have t46 : ((x : Int) == 46) = false := by simp; omega
        have t45 : ((x : Int) == 45) = false := by simp; omega
        go_wp2_with fail
        go_ret
        exact ⟨by rw [HN.out]; rfl, HE.out⟩
    · have hk0 : s.data.toList.take k = s.data.toList := List.take_of_length_le (by omega)
      rw [hk0] at hno
      have HN := hid (nameB_ok hno)
      have HE := hid hE
      clear hno hE hk0 hlen
      by_cases h1 : 1 ≤ s.size
      · by_cases h2 : s.size ≤ 16
        · have t1 : (1 : Int) ≤ (s.size : Int) := by omega
          have t2 : (s.size : Int) ≤ 16 := by omega
          have HN2 := hid (HN.out.trans (by rw [decide_eq_true h1, decide_eq_true h2]))
          clear HN
          go_wp2_with fail
          go_ret
          exact ⟨by rw [HN2.out]; rfl, HE.out⟩
        · have t1 : (1 : Int) ≤ (s.size : Int) := by omega
          have t2 : ¬ (s.size : Int) ≤ 16 := by omega
          have HN2 := hid (HN.out.trans (by rw [decide_eq_true h1, decide_eq_false h2]))
          clear HN
          go_wp2_with fail
          go_ret
          exact ⟨by rw [HN2.out]; rfl, HE.out⟩
      · have t1 : ¬ (1 : Int) ≤ (s.size : Int) := by omega
        have HN2 := hid (HN.out.trans (by rw [decide_eq_false h1]))
        clear HN
        go_wp2_with fail
        go_ret
        exact ⟨by rw [HN2.out]; rfl, HE.out⟩
end Go.Proofs.Ytopabknlgmihpaa
