/- isName; the document's name. -/
import Derived.Test.YtopabknlgmihpaaName
import Derived.Test.YtopabknlgmihpaaLaidC
namespace Go.Proofs.Ytopabknlgmihpaa
open Go Go.RowKit Go.MapKept Go.ChangeMaps Go.Maps Go.Lib

set_option maxRecDepth 100000 in
set_option maxHeartbeats 1600000 in
theorem other_any (W : World) (x : Nat) : Calls Try.prog 58 #[.int .i32 (x : Int)] W fun e w' => e = .returned (.bool (!okN x)) ∧ w' = W := by
  have HK : Hid (∀ b, okN x = b → (!okN x) = !b) := fun b h => by rw [h]
  by_cases h1 : 97 ≤ x
  · have k1 : (97 : Int) ≤ (x : Int) := by omega
    by_cases h2 : x ≤ 122
    · have k2 : (x : Int) ≤ 122 := by omega
      have HO := hid (show okN x = true by unfold okN; simp; omega)
      go_enter Try.func58, Try.ntmps58
      go_wp2
      go_ret
      exact ⟨by rw [HO.out]; rfl, rfl⟩
    · have k2 : ¬ (x : Int) ≤ 122 := by omega
      have k4 : ¬ (x : Int) ≤ 57 := by omega
      have k3 : (48 : Int) ≤ (x : Int) := by omega
      have k5 : ((x : Int) == 46) = false := by simp; omega
      have k6 : ((x : Int) == 45) = false := by simp; omega
      have HO := hid (show okN x = false by unfold okN; simp; omega)
      go_enter Try.func58, Try.ntmps58
      go_wp2
      go_ret
      exact ⟨by rw [HO.out]; rfl, rfl⟩
  · have k1 : ¬ (97 : Int) ≤ (x : Int) := by omega
    by_cases h3 : 48 ≤ x
    · have k3 : (48 : Int) ≤ (x : Int) := by omega
      by_cases h4 : x ≤ 57
      · have k4 : (x : Int) ≤ 57 := by omega
        have HO := hid (show okN x = true by unfold okN; simp; omega)
        go_enter Try.func58, Try.ntmps58
        go_wp2
        go_ret
        exact ⟨by rw [HO.out]; rfl, rfl⟩
      · have k4 : ¬ (x : Int) ≤ 57 := by omega
        have k5 : ((x : Int) == 46) = false := by simp; omega
        have k6 : ((x : Int) == 45) = false := by simp; omega
        have HO := hid (show okN x = false by unfold okN; simp; omega)
        go_enter Try.func58, Try.ntmps58
        go_wp2
        go_ret
        exact ⟨by rw [HO.out]; rfl, rfl⟩
    · have k3 : ¬ (48 : Int) ≤ (x : Int) := by omega
      by_cases h5 : x = 46
      · have k5 : ((x : Int) == 46) = true := by simp; omega
        have HO := hid (show okN x = true by unfold okN; simp; omega)
        clear h5
        go_enter Try.func58, Try.ntmps58
        go_wp2
        go_ret
        exact ⟨by rw [HO.out]; rfl, rfl⟩
      · have k5 : ((x : Int) == 46) = false := by simp; omega
        by_cases h6 : x = 45
        · have k6 : ((x : Int) == 45) = true := by simp; omega
          have HO := hid (show okN x = true by unfold okN; simp; omega)
          clear h6
          go_enter Try.func58, Try.ntmps58
          go_wp2
          go_ret
          exact ⟨by rw [HO.out]; rfl, rfl⟩
        · have k6 : ((x : Int) == 45) = false := by simp; omega
          have HO := hid (show okN x = false by unfold okN; simp; omega)
          go_enter Try.func58, Try.ntmps58
          go_wp2
          go_ret
          exact ⟨by rw [HO.out]; rfl, rfl⟩

theorem other_at (w : World) : PredAt Try.prog 58 #[] encR (fun x => !okN x) w := fun W x _ => (other_any W x).mono fun e w' ⟨h1, h2⟩ => ⟨h1, 0, h2⟩

set_option maxRecDepth 100000 in
set_option maxHeartbeats 800000 in
theorem isName_any (w : World) (s : ByteArray) (hs : s.size ≤ maxLen) : Calls Try.prog 37 #[.string s] w fun e w' => e = .returned (.bool (nameB s)) ∧ Below w.heap.size w w' := by
  have eg : ∀ args W, (callFunc 58 args).run Try.prog W = .ok (.enter 58 args) W := enters_of Try.func58 (by kernel_rfl) rfl
  have hC := fun W => Any.strings_ContainsFunc Try.containsF 58 #[] eg (fun x => !okN x) s W (other_at W)
  rw [contains_names] at hC
  by_cases h0 : s.size = 0
  · have HN := hid (show nameB s = false by unfold nameB; simp [h0])
    have hE : s = ⟨#[]⟩ := by
      cases s with
      | mk d => simp at h0; rw [h0]; rfl
    clear hC h0
    subst hE
    go_enter Try.func37, Try.ntmps37
    go_wp2
    go_ret
    exact ⟨by rw [HN.out]; rfl, Below.refl _ _⟩
  · have hne : s.toList.isEmpty = false := by
      rw [ByteArray.toList_eq]
      cases hd : s.data.toList with
      | nil => exact absurd (by have := congrArg List.length hd; simpa using this) h0
      | cons _ _ => rfl
    unfold maxLen at hs
    by_cases h1 : s.size ≤ 16
    · have HN := hid (show nameB s = !!(s.data.toList.all (fun c => okN c.toNat)) by unfold nameB; simp [h1]; omega)
      generalize (s.data.toList.all (fun c => okN c.toNat)) = b at *
      have HC := hid hC
      clear hC h0
      go_enter Try.func37, Try.ntmps37
      go_wp2_with fail
      refine (HC.out _).mono ?_
      rintro e w2 ⟨rfl, hb⟩
      have HB := hid hb
      clear hb
      go_wp2
      go_ret
      exact ⟨by rw [HN.out, Bool.not_not]; rfl, HB.out⟩
    · have HN := hid (show nameB s = false by unfold nameB; simp; omega)
      clear hC h0
      go_enter Try.func37, Try.ntmps37
      go_wp2
      go_ret
      exact ⟨by rw [HN.out]; rfl, Below.refl _ _⟩
end Go.Proofs.Ytopabknlgmihpaa
