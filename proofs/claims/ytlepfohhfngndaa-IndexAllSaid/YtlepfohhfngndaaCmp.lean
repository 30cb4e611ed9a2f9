/- Comparisons: cmp.Compare, cmp.Or, ids.order, ids.Less, the reference's Less. -/
import Derived.Test.YtlepfohhfngndaaId
import Derived.Test.YtlepfohhfngndaaWalk
namespace Go.Proofs.Ytlepfohhfngndaa
open Go Go.RowKit Go.MapKept Go.ChangeMaps Go.Maps

def cmpI (x y : Int) : Int := if x < y then -1 else if y < x then 1 else 0
def orI (x y : Int) : Int := if x ≠ 0 then x else y
def orderId (a b : Id) : Int := orI (cmpI a.n b.n) (cmpI a.r b.r)
def lessId (a b : Id) : Bool := decide (a.n < b.n ∨ a.n = b.n ∧ a.r < b.r)
theorem cmpI_zero {x y : Int} : cmpI x y = 0 ↔ x = y := by
  unfold cmpI
  split
  · omega
  · split <;> omega
theorem cmpI_neg {x y : Int} : cmpI x y < 0 ↔ x < y := by
  unfold cmpI
  split
  · omega
  · split <;> omega
theorem orderId_neg (a b : Id) : orderId a b < 0 ↔ lessId a b = true := by
  unfold orderId orI lessId
  simp only [decide_eq_true_eq]
  by_cases h : cmpI a.n b.n = 0
  · rw [if_neg (by simpa using h), cmpI_neg]
    have := cmpI_zero.1 h
    omega
  · rw [if_pos h, cmpI_neg]
    have : a.n ≠ b.n := fun e => h (cmpI_zero.2 e)
    omega
theorem orderId_self (a : Id) : orderId a a = 0 := by unfold orderId orI cmpI; simp

set_option maxRecDepth 100000 in
set_option maxHeartbeats 400000 in
theorem isNaN_any (x : Int) (w : World) : Calls Try.prog 59 #[.int .i64 x] w fun e w' => e = .returned (.bool false) ∧ w' = w := by
  have hx : (!(x == x)) = false := by simp
  go_enter Try.func59, Try.ntmps59
  go_wp2
  go_ret
  exact ⟨by simp, rfl⟩

set_option maxRecDepth 100000 in
set_option maxHeartbeats 400000 in
theorem Compare_any (x y : Int) (w : World) : Calls Try.prog 40 #[.int .i64 x, .int .i64 y] w fun e w' => e = .returned (.int .i64 (cmpI x y)) ∧ w' = w := by
  by_cases h1 : x < y
  · have hc : cmpI x y = -1 := by unfold cmpI; rw [if_pos h1]
    have HC := hid hc
    clear hc
    go_enter Try.func40, Try.ntmps40
    go_wp2_with (go_at_call 59; refine (isNaN_any _ _).mono ?_; rintro e w' ⟨rfl, rfl⟩)
    go_ret
    exact ⟨by rw [HC.out]; rfl, rfl⟩
  · by_cases h2 : y < x
    · have hc : cmpI x y = 1 := by unfold cmpI; rw [if_neg h1, if_pos h2]
      have HC := hid hc
      clear hc
      go_enter Try.func40, Try.ntmps40
      go_wp2_with (go_at_call 59; refine (isNaN_any _ _).mono ?_; rintro e w' ⟨rfl, rfl⟩)
      go_ret
      exact ⟨by rw [HC.out]; rfl, rfl⟩
    · have hc : cmpI x y = 0 := by unfold cmpI; rw [if_neg h1, if_neg h2]
      have HC := hid hc
      clear hc
      go_enter Try.func40, Try.ntmps40
      go_wp2_with (go_at_call 59; refine (isNaN_any _ _).mono ?_; rintro e w' ⟨rfl, rfl⟩)
      go_ret
      exact ⟨by rw [HC.out]; rfl, rfl⟩

set_option maxRecDepth 100000 in
set_option maxHeartbeats 400000 in
theorem Or_any (x y : Int) (w : World) (g : Nat) (h0 : w.cell? ⟨g, 0, none⟩ = some (.int .i64 x)) (h1 : w.cell? ⟨g, 1, none⟩ = some (.int .i64 y)) :
    Calls Try.prog 65 #[.slice (some ⟨g, 0, none⟩) 2 2] w fun e w' => e = .returned (.int .i64 (orI x y)) ∧ w' = w := by
  unfold orI
  by_cases hx : x = 0
  · subst hx
    by_cases hy : y = 0
    · subst hy
      go_enter Try.func65, Try.ntmps65
      go_wp2
      refine wp_loop_rounds 3 ?_
      rw [rounds_succ]
      go_wp2
      rw [rounds_succ]
      go_wp2
      rw [rounds_succ]
      go_wp2
      go_ret
      exact ⟨rfl, rfl⟩
    · have hy' : (y == 0) = false := beq_eq_false_iff_ne.2 hy
      go_enter Try.func65, Try.ntmps65
      go_wp2
      refine wp_loop_rounds 2 ?_
      rw [rounds_succ]
      go_wp2
      rw [rounds_succ]
      go_wp2
      go_ret
      exact ⟨rfl, rfl⟩
  · have hx' : (x == 0) = false := beq_eq_false_iff_ne.2 hx
    go_enter Try.func65, Try.ntmps65
    go_wp2
    refine wp_loop_rounds 1 ?_
    rw [rounds_succ]
    go_wp2
    go_ret
    exact ⟨rfl, rfl⟩

theorem run_eql_id (a b : Id) (w : World) : (binOp .eql 28 (.agg #[.int .i64 a.r, .int .i64 a.n]) (.agg #[.int .i64 b.r, .int .i64 b.n])).run Try.prog w = .ok (.bool (decide (a = b))) w := by
  have h : decide (a = b) = ((a.r == b.r) && (a.n == b.n)) := by rw [Bool.eq_iff_iff]; simp [Id.eq_iff]
  rw [h]
  by_cases h1 : a.r = b.r <;> by_cases h2 : a.n = b.n <;> simp [go_sem, h1, h2]
theorem run_neq_id (a b : Id) (w : World) : (binOp .neq 28 (.agg #[.int .i64 a.r, .int .i64 a.n]) (.agg #[.int .i64 b.r, .int .i64 b.n])).run Try.prog w = .ok (.bool (!decide (a = b))) w := by
  have h : decide (a = b) = ((a.r == b.r) && (a.n == b.n)) := by rw [Bool.eq_iff_iff]; simp [Id.eq_iff]
  rw [h]
  by_cases h1 : a.r = b.r <;> by_cases h2 : a.n = b.n <;> simp [go_sem, h1, h2]

set_option maxRecDepth 100000 in
set_option maxHeartbeats 400000 in
theorem order_any (a b : Id) (w : World) : Calls Try.prog 53 #[.agg #[.int .i64 a.r, .int .i64 a.n], .agg #[.int .i64 b.r, .int .i64 b.n]] w fun e w' => e = .returned (.int .i64 (orderId a b)) ∧ Ext w w' := by
  have he := run_eql_id a b
  by_cases hab : a = b
  · have hd : decide (a = b) = true := by simpa using hab
    have HO := hid (show orderId a b = 0 by rw [hab]; exact orderId_self b)
    clear hab
    rw [hd] at he
    clear hd
    go_enter Try.func53, Try.ntmps53
    go_wp2
    go_ret
    exact ⟨by rw [HO.out]; rfl, ((Ext.refl w).alloc _).alloc _⟩
  · have hd : decide (a = b) = false := by simpa using hab
    clear hab
    rw [hd] at he
    clear hd
    go_enter Try.func53, Try.ntmps53
    go_wp2_with fail
    have hC := fun x y W => Compare_any x y W
    refine region_still_tail 10 (by kernel_rfl) (by kernel_rfl) ?_
    simp only [List.take_succ_cons, List.take_zero, List.drop_succ_cons, List.drop_zero]
    repeat still_step
    still_call (hC _ _ _)
    repeat still_step
    still_call (hC _ _ _)
    repeat still_step
    refine wpStill_nil ?_
    clear hC
    go_wp2_with fail
    refine (Or_any (cmpI a.n b.n) (cmpI a.r b.r) _ _ ?_ ?_).mono ?_
    · go_simp
    · go_simp
    rintro e w' ⟨rfl, rfl⟩
    go_wp2
    go_ret
    exact ⟨rfl, ((((Ext.refl w).alloc _).alloc _).alloc _).drew⟩

set_option maxRecDepth 100000 in
set_option maxHeartbeats 400000 in
theorem Less_any (a b : Id) (w : World) : Calls Try.prog 41 #[.agg #[.int .i64 a.r, .int .i64 a.n], .agg #[.int .i64 b.r, .int .i64 b.n]] w fun e w' => e = .returned (.bool (lessId a b)) ∧ Ext w w' := by
  have H := hid (show decide (orderId a b < 0) = lessId a b by rw [Bool.eq_iff_iff]; simp [orderId_neg])
  go_enter Try.func41, Try.ntmps41
  go_wp2_with fail
  refine (order_any a b _).mono ?_
  rintro e w' ⟨rfl, he⟩
  go_wp2
  all_goals
    go_ret
    refine ⟨by rw [← H.out]; simp [*], (((Ext.refl w).alloc _).alloc _).trans he⟩

set_option maxRecDepth 100000 in
set_option maxHeartbeats 400000 in
theorem RefLess_any (a b : Id) (w : World) : Calls Try.prog 56 #[.agg #[.int .i64 a.r, .int .i64 a.n], .agg #[.int .i64 b.r, .int .i64 b.n]] w fun e w' => e = .returned (.bool (lessId a b)) ∧ Ext w w' := by
  have H : lessId a b = (decide (a.n < b.n) || (a.n == b.n) && decide (a.r < b.r)) := by unfold lessId; rw [Bool.eq_iff_iff]; simp
  by_cases h1 : a.n < b.n
  · have HH := hid (show lessId a b = true by rw [H]; simp [h1])
    clear H
    go_enter Try.func56, Try.ntmps56
    go_wp2
    go_ret
    exact ⟨by rw [HH.out]; rfl, ((Ext.refl w).alloc _).alloc _⟩
  · by_cases h2 : a.n = b.n
    · have h2' : (a.n == b.n) = true := by simpa using h2
      have h1' : decide (a.n < b.n) = false := by simpa using h1
      have HH := hid (show lessId a b = decide (a.r < b.r) by rw [H]; simp [h1', h2'])
      clear H h1 h2
      go_enter Try.func56, Try.ntmps56
      go_wp2
      all_goals
        go_ret
        exact ⟨by rw [HH.out]; simp [*], ((Ext.refl w).alloc _).alloc _⟩
    · have h2' : (a.n == b.n) = false := by simpa using h2
      have h1' : decide (a.n < b.n) = false := by simpa using h1
      have HH := hid (show lessId a b = false by rw [H]; simp [h1', h2'])
      clear H h1 h2
      go_enter Try.func56, Try.ntmps56
      go_wp2
      go_ret
      exact ⟨by rw [HH.out]; rfl, ((Ext.refl w).alloc _).alloc _⟩
end Go.Proofs.Ytlepfohhfngndaa
