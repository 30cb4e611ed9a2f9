/- The document's example of the wheel comes to true. -/
import Derived.Test.YtlepfohhfngndaaWheelLaw
namespace Go.Proofs.Ytlepfohhfngndaa
open Go Go.RowKit Go.MapKept Go.ChangeMaps Go.Maps

def id01 : Id := ⟨0, 1, by unfold I64; omega, by unfold I64; omega⟩
def id02 : Id := ⟨0, 2, by unfold I64; omega, by unfold I64; omega⟩
theorem awM : aput (aput [] id01 (5 : Int)) id02 (3 : Int) = [(id01, 5), (id02, 3)] := by decide
theorem awX : setT (setT [] (id01, 5)) (id02, 3) = [(id02, 3), (id01, 5)] := by decide
theorem awPlays : Plays [(id01, 5), (id02, 3)] [(id02, 3), (id01, 5)] := by
  have := (Plays.start.set id01 5).set id02 3
  rwa [awM, awX] at this
theorem awDue {out : List Id} (h : Collected [(id01, 5), (id02, 3)] [] 4 out) : dueIds [(id01, 5), (id02, 3)] out = [id02] := by
  rw [awPlays.due h]; decide
theorem awLeft : [id02].foldl adel [(id01, (5 : Int)), (id02, (3 : Int))] = [(id01, (5 : Int))] := by decide

set_option maxRecDepth 100000 in
set_option maxHeartbeats 1600000 in
theorem WheelAwake (w : World) : Calls Try.prog 8 #[] w fun e w' => e = .returned (.bool true) ∧ Below w.heap.size w w' := by
  go_enter Try.func8, Try.ntmps8
  go_wp2_with fail
  refine (New_spec _).mono ?_
  rintro e w1 ⟨b, m, rfl, hW, hE, hmw, hbw⟩
  have hmlt := hW.map.lt
  have hblt := hW.lt
  have hW1 := hW.kept (S := fun _ => False) (((Ext.refl w1).alloc (.cells #[.int .i64 0, .int .i64 1] 28)).alloc (.cells #[.int .i64 0, .int .i64 2] 28)).keeps (fun h => h) (fun h => h)
  have hK1 : Keeps (· = m) w (((w1.alloc (.cells #[.int .i64 0, .int .i64 1] 28)).alloc (.cells #[.int .i64 0, .int .i64 2] 28))) := ((hE.alloc _).alloc _).keeps
  clear hW hE
  go_wp2_with fail
  refine (Set_any _ b m [] id01 5 hW1).mono ?_
  rintro e w2 ⟨rfl, hW2, hk2⟩
  have d0 : w2.cell? ⟨w1.heap.size + 1, 0, none⟩ = some (.int .i64 0) := hk2.cell (by omega) (by simp)
  have d1 : w2.cell? ⟨w1.heap.size + 1, 1, none⟩ = some (.int .i64 2) := hk2.cell (by omega) (by simp)
  have hK2 := hK1.trans hk2 (fun _ _ e => e)
  clear hW1 hK1 hk2
  go_wp2_with fail
  refine (Set_any _ b m _ id02 3 hW2).mono ?_
  rintro e w3 ⟨rfl, hW3, hk3⟩
  have f0 := hk3.cell (by omega) d0
  have f1 := hk3.cell (by omega) d1
  have hK3 := hK2.trans hk3 (fun _ _ e => e)
  clear hW2 hK2 hk3 d0 d1
  rw [awM] at hW3
  go_wp2_with fail
  refine (Due_any _ b m _ 4 hW3 (by simp)).mono ?_
  rintro e w4 ⟨v, out, rfl, hcol, hown, hW4, hk4⟩
  rw [awDue hcol] at hown hW4
  rw [awLeft] at hW4
  have d0 := hk4.cell (by omega) f0
  have d1 := hk4.cell (by omega) f1
  have hK4 := hK3.trans hk4 (fun _ _ e => e)
  clear hW3 hK3 hk4 f0 f1 hcol
  go_wp2_with fail
  refine (Next_any _ b m _ hW4).mono ?_
  rintro e w5 ⟨he5, hE5⟩
  have he : e = .returned (.tuple #[.int .i64 5, .bool true]) := he5
  clear he5
  subst he
  have f0 := (hE5.keeps (S := fun _ => False)).cell (fun h => h) d0
  have f1 := (hE5.keeps (S := fun _ => False)).cell (fun h => h) d1
  have hK5 := hK4.trans (hE5.keeps (S := fun _ => False)) (fun _ _ h => h.elim)
  have hW5 := hW4.kept (hE5.keeps (S := fun _ => False)) (fun h => h) (fun h => h)
  have hown5 := hown.ext hE5
  obtain ⟨a, g, off, cap, hv, hcap, hrd, _⟩ := Owns.rd encId_len hown5
  subst hv
  have g0 : w5.cell? ⟨g, off, none⟩ = some (.int .i64 0) := by simpa [id02] using hrd.cells 0 id02 rfl 0 _ rfl
  have g1 : w5.cell? ⟨g, off + 1, none⟩ = some (.int .i64 2) := by simpa [id02] using hrd.cells 0 id02 rfl 1 _ rfl
  have ha := hrd.some (by simp)
  subst ha
  have hL := hid (fun n => Len_any (w5.drewN n) b m [(id01, 5)] (hW5.drewN n))
  have hfin : Below w.heap.size w w5 := hK5.below (Nat.le_refl _) (fun k e => by omega)
  have hz : w1.heap.size + 1 < w5.heap.size := World.block_lt_of_cell? w5 ⟨w1.heap.size + 1, 0, none⟩ f0
  clear hrd hW4 hE5 hown hown5 hW5 hK4 hK5 d0 d1
  go_wp2_with fail
  go_quiet ((go_at_call 19; exact Calls.quiet_of_same (hL.out _)))
  go_wp2
  go_ret
  exact ⟨rfl, bdrewN hfin _⟩
end Go.Proofs.Ytlepfohhfngndaa
