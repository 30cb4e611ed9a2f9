/- WheelOnce: what was due is due no more; whoever is set again is due later, once. The walk. -/
import Derived.Test.YtlepfohhfngndaaWheelAwake
namespace Go.Proofs.Ytlepfohhfngndaa
open Go Go.RowKit Go.MapKept Go.ChangeMaps Go.Maps

theorem Plays.allDue {M X : List (Id × Int)} (h : Plays M X) {now : Int} {out : List Id} (hc : Collected M [] now out) (hd : ∀ p ∈ M, p.2 ≤ now) : (dueIds M out).length = M.length ∧ (dueIds M out).foldl adel M = [] := by
  have e : dueT X now = X.length := by
    unfold dueT
    have : ∀ Y : List (Id × Int), (∀ p ∈ Y, p.2 ≤ now) → Y.takeWhile (fun p => decide (p.2 ≤ now)) = Y := fun Y hY => by
      have := List.takeWhile_append_of_pos (l₁ := Y) (l₂ := []) (p := fun p : Id × Int => decide (p.2 ≤ now)) (fun p hp => by simpa using hY p hp)
      simpa using this
    rw [this X (fun p hp => hd p (h.perm.mem_iff.2 hp))]
  rw [h.due hc, e, List.take_length]
  refine ⟨by rw [List.length_map, h.len], ?_⟩
  have := (h.drop X.length).perm
  rw [List.take_length, List.drop_length] at this
  exact List.perm_nil.1 this
def onceM (i k : Id) (a b : Int) : List (Id × Int) := aput (aput (aput [] i a) k a) i b
theorem onceM_eq (i k : Id) (a b : Int) : onceM i k a b = if i = k then [(i, b)] else [(i, b), (k, a)] := by
  unfold onceM
  by_cases h : i = k
  · subst h; simp [aput, ahas]
  · have h' : ¬ k = i := fun e => h e.symm
    simp [aput, ahas, h, h']
theorem onceM_plays (i k : Id) (a b : Int) : ∃ X, Plays (onceM i k a b) X := ⟨_, ((Plays.start.set i a).set k a).set i b⟩
theorem once_law (i k : Id) (a b now : Int) (h1 : a ≤ now) (h2 : b ≤ now) {out : List Id} (hc : Collected (onceM i k a b) [] now out) :
    (dueIds (onceM i k a b) out).length = (if i = k then 1 else 2) ∧ (dueIds (onceM i k a b) out).foldl adel (onceM i k a b) = [] := by
  obtain ⟨X, hX⟩ := onceM_plays i k a b
  have hd : ∀ p ∈ onceM i k a b, p.2 ≤ now := by
    rw [onceM_eq]
    split
    · intro p hp; simp at hp; subst hp; exact h2
    · intro p hp; simp at hp; rcases hp with rfl | rfl <;> assumption
  obtain ⟨e1, e2⟩ := hX.allDue hc hd
  refine ⟨?_, e2⟩
  rw [e1, onceM_eq]
  split <;> rfl
theorem none_law (now : Int) {out : List Id} (hc : Collected [] [] now out) : dueIds [] out = [] := by
  obtain ⟨done, hp, rfl⟩ := hc
  have := List.perm_nil.1 hp
  simp at this
  subst this
  simp [dueIds]

set_option maxRecDepth 100000 in
set_option maxHeartbeats 1600000 in
theorem WheelOnce_any (w : World) (i k : Id) (a b : Int) :
    Calls Try.prog 4 #[.agg #[.int .i64 i.r, .int .i64 i.n], .agg #[.int .i64 k.r, .int .i64 k.n], .int .i64 a, .int .i64 b] w fun e w' => e = .returned (.bool true) ∧ Below w.heap.size w w' := by
  go_enter Try.func4, Try.ntmps4
  go_wp2_with fail
  refine (New_spec _).mono ?_
  rintro e w1 ⟨p, m, rfl, hW1, hE, hmw, hpw⟩
  have f0 : w1.cell? ⟨w.heap.size, 0, none⟩ = some (.int .i64 i.r) := (hE.keeps (S := fun _ => False)).cell (fun h => h) (by simp)
  have f1 : w1.cell? ⟨w.heap.size, 1, none⟩ = some (.int .i64 i.n) := (hE.keeps (S := fun _ => False)).cell (fun h => h) (by simp)
  have f2 : w1.cell? ⟨w.heap.size + 1, 0, none⟩ = some (.int .i64 k.r) := (hE.keeps (S := fun _ => False)).cell (fun h => h) (by simp)
  have f3 : w1.cell? ⟨w.heap.size + 1, 1, none⟩ = some (.int .i64 k.n) := (hE.keeps (S := fun _ => False)).cell (fun h => h) (by simp)
  have hK1 : Keeps (· = m) w w1 := ((((Ext.refl w).alloc _).alloc _).trans hE).keeps
  simp at hmw hpw
  clear hE
  go_wp2_with fail
  refine (Set_any _ p m [] i a hW1).mono ?_
  rintro e w2 ⟨rfl, hW2, hk⟩
  replace f0 := hk.cell (by omega) f0
  replace f1 := hk.cell (by omega) f1
  replace f2 := hk.cell (by omega) f2
  replace f3 := hk.cell (by omega) f3
  have hK2 := hK1.trans hk (fun _ _ e => e)
  clear hW1 hK1 hk
  go_wp2_with fail
  refine (Set_any _ p m _ k a hW2).mono ?_
  rintro e w3 ⟨rfl, hW3, hk⟩
  replace f0 := hk.cell (by omega) f0
  replace f1 := hk.cell (by omega) f1
  replace f2 := hk.cell (by omega) f2
  replace f3 := hk.cell (by omega) f3
  have hK3 := hK2.trans hk (fun _ _ e => e)
  clear hW2 hK2 hk
  go_wp2_with fail
  refine (Set_any _ p m _ i b hW3).mono ?_
  rintro e w4 ⟨rfl, hW4, hk⟩
  replace f0 := hk.cell (by omega) f0
  replace f1 := hk.cell (by omega) f1
  replace f2 := hk.cell (by omega) f2
  replace f3 := hk.cell (by omega) f3
  have hK4 := hK3.trans hk (fun _ _ e => e)
  have hW4' : Wheel w4 p m (onceM i k a b) := hW4
  have hlen : (onceM i k a b).length ≤ 1000 := by rw [onceM_eq]; split <;> simp
  clear hW3 hK3 hk hW4
  go_wp2_with fail
  refine (Due_any _ p m _ _ hW4' hlen).mono ?_
  rintro e w5 ⟨v, out, rfl, hcol, hown, hW5, hk⟩
  obtain ⟨hL, hnil⟩ := once_law i k a b _ (by omega) (by omega) hcol
  rw [hnil] at hW5
  replace f0 := hk.cell (by omega) f0
  replace f1 := hk.cell (by omega) f1
  replace f2 := hk.cell (by omega) f2
  replace f3 := hk.cell (by omega) f3
  have hK5 := hK4.trans hk (fun _ _ e => e)
  clear hK4 hk hW4' hlen hnil hcol
  have hik : (decide (i = k) = true ∧ (if i = k then 1 else 2) = 1) ∨ (decide (i = k) = false ∧ (if i = k then 1 else 2) = 2) := by
    by_cases h : i = k <;> simp [h]
  rcases hik with ⟨hik, hn⟩ | ⟨hik, hn⟩
  · rw [hn] at hL
    clear hn
    obtain ⟨a1, g1, o1, c1, hv, _, _, _⟩ := Owns.rd encId_len hown
    rw [hL] at hv
    subst hv
    clear hL hown
    go_wp2_with fail
    refine (Due_any _ p m [] _ hW5 (by simp)).mono ?_
    rintro e w6 ⟨v2, out2, rfl, hcol2, hown2, hW6, hk⟩
    rw [none_law _ hcol2] at hown2 hW6
    replace f0 := hk.cell (by omega) f0
    replace f1 := hk.cell (by omega) f1
    replace f2 := hk.cell (by omega) f2
    replace f3 := hk.cell (by omega) f3
    have hK6 := hK5.trans hk (fun _ _ e => e)
    obtain ⟨a2, g2, o2, c2, hv, _, _, _⟩ := Owns.rd encId_len hown2
    simp only [List.length_nil] at hv
    subst hv
    clear hK5 hk hW5 hcol2 hown2
    go_wp2_with fail
    refine (At_any _ p m [] i hW6).mono ?_
    rintro e w7 ⟨he7, hE7⟩
    have he : e = .returned (.tuple #[.int .i64 0, .bool false]) := he7
    clear he7
    subst he
    have hW7 := hW6.ext hE7
    replace f0 := (hE7.keeps (S := fun _ => False)).cell (fun h => h) f0
    replace f1 := (hE7.keeps (S := fun _ => False)).cell (fun h => h) f1
    replace f2 := (hE7.keeps (S := fun _ => False)).cell (fun h => h) f2
    replace f3 := (hE7.keeps (S := fun _ => False)).cell (fun h => h) f3
    have hK7 := hK6.trans (hE7.keeps (S := fun _ => False)) (fun _ _ h => h.elim)
    have he := run_eql_id i k
    rw [hik] at he
    clear hW6 hE7 hK6 hik
    go_wp2_with fail
    refine (Len_any _ p m [] hW7).mono ?_
    rintro e w8 ⟨he8, rfl⟩
    have he9 : e = .returned (.int .i64 0) := he8
    clear he8
    subst he9
    go_wp2_with fail
    refine (Cancel_any _ p m [] i hW7).mono ?_
    rintro e w8 ⟨he8, hW8, hk⟩
    have he9 : e = .returned (.bool false) := he8
    clear he8
    subst he9
    have hK8 := hK7.trans hk (fun _ _ e => e)
    clear hK7 hk hW7 hW8
    go_wp2_with fail
    refine (WheelAwake _).mono ?_
    rintro e w9 ⟨rfl, hb9⟩
    have hfin : Below w.heap.size w w9 := below_trans' (hK8.below (Nat.le_refl _) (fun k e => by omega)) hb9
    clear hK8 hb9
    go_wp2
    go_ret
    exact ⟨rfl, hfin⟩
  · rw [hn] at hL
    clear hn
    obtain ⟨a1, g1, o1, c1, hv, _, _, _⟩ := Owns.rd encId_len hown
    rw [hL] at hv
    subst hv
    clear hL hown
    go_wp2_with fail
    refine (Due_any _ p m [] _ hW5 (by simp)).mono ?_
    rintro e w6 ⟨v2, out2, rfl, hcol2, hown2, hW6, hk⟩
    rw [none_law _ hcol2] at hown2 hW6
    replace f0 := hk.cell (by omega) f0
    replace f1 := hk.cell (by omega) f1
    replace f2 := hk.cell (by omega) f2
    replace f3 := hk.cell (by omega) f3
    have hK6 := hK5.trans hk (fun _ _ e => e)
    obtain ⟨a2, g2, o2, c2, hv, _, _, _⟩ := Owns.rd encId_len hown2
    simp only [List.length_nil] at hv
    subst hv
    clear hK5 hk hW5 hcol2 hown2
    go_wp2_with fail
    refine (At_any _ p m [] i hW6).mono ?_
    rintro e w7 ⟨he7, hE7⟩
    have he : e = .returned (.tuple #[.int .i64 0, .bool false]) := he7
    clear he7
    subst he
    have hW7 := hW6.ext hE7
    replace f0 := (hE7.keeps (S := fun _ => False)).cell (fun h => h) f0
    replace f1 := (hE7.keeps (S := fun _ => False)).cell (fun h => h) f1
    replace f2 := (hE7.keeps (S := fun _ => False)).cell (fun h => h) f2
    replace f3 := (hE7.keeps (S := fun _ => False)).cell (fun h => h) f3
    have hK7 := hK6.trans (hE7.keeps (S := fun _ => False)) (fun _ _ h => h.elim)
    have he := run_eql_id i k
    rw [hik] at he
    clear hW6 hE7 hK6 hik
    go_wp2_with fail
    refine (Len_any _ p m [] hW7).mono ?_
    rintro e w8 ⟨he8, rfl⟩
    have he9 : e = .returned (.int .i64 0) := he8
    clear he8
    subst he9
    go_wp2_with fail
    refine (Cancel_any _ p m [] i hW7).mono ?_
    rintro e w8 ⟨he8, hW8, hk⟩
    have he9 : e = .returned (.bool false) := he8
    clear he8
    subst he9
    have hK8 := hK7.trans hk (fun _ _ e => e)
    clear hK7 hk hW7 hW8
    go_wp2_with fail
    refine (WheelAwake _).mono ?_
    rintro e w9 ⟨rfl, hb9⟩
    have hfin : Below w.heap.size w w9 := below_trans' (hK8.below (Nat.le_refl _) (fun k e => by omega)) hb9
    clear hK8 hb9
    go_wp2
    go_ret
    exact ⟨rfl, hfin⟩
end Go.Proofs.Ytlepfohhfngndaa
