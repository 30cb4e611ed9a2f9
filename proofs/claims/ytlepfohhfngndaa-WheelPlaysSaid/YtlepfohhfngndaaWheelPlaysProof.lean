/- WheelPlays holds: for every list of acts the law returns true, and the argument reads as before. -/
import Derived.Test.YtlepfohhfngndaaLaw
import Derived.Test.YtlepfohhfngndaaWheelPlays
namespace Go.Proofs.Ytlepfohhfngndaa.WheelPlaysProof
open Go Go.RowKit Go.ChangeShapes Go.WideShapes Go.ChangeAt

theorem cellsWAct : Try.prog.cellsOf 30 = 4 := by kernel_rfl
set_option maxRecDepth 100000 in
theorem trod_wact {H : Type} {ec : TypeId × Value → H} {w : World} {base : Nat} {spare : Nat → Bool} {held : Bool} (n : Nat) (cs : List Value) (x : DataW H × List MemPlace) (h : DataW.trod ec Try.prog w base spare held n 30 cs = some x) : ∃ A : WAct, cs = encWAct A := by
  obtain ⟨xs, m, _, _, hlen, hsz, hf⟩ := DataW.trod_struct Try.underlying30 h
  rw [cellsWAct] at hlen
  obtain ⟨c0, c1, c2, c3, rfl⟩ : ∃ c0 c1 c2 c3, cs = [c0, c1, c2, c3] := by
    match cs, hlen with
    | [c0, c1, c2, c3], _ => exact ⟨c0, c1, c2, c3, rfl⟩
  obtain ⟨y0, y1, y2, rfl⟩ : ∃ y0 y1 y2, xs = [y0, y1, y2] := by
    match xs, hsz with
    | [y0, y1, y2], _ => exact ⟨y0, y1, y2, rfl⟩
  have h0 : DataW.trod ec Try.prog w base spare held m 3 (([c0, c1, c2, c3].drop 0).take (Try.prog.cellsOf 3)) = some y0 := hf 0 _ rfl
  have h1 : DataW.trod ec Try.prog w base spare held m 28 (([c0, c1, c2, c3].drop 1).take (Try.prog.cellsOf 28)) = some y1 := hf 1 _ rfl
  have h2 : DataW.trod ec Try.prog w base spare held m 3 (([c0, c1, c2, c3].drop 3).take (Try.prog.cellsOf 3)) = some y2 := hf 2 _ rfl
  rw [cellsInt] at h0 h2
  rw [cellsId] at h1
  obtain ⟨a, e0, _, _⟩ := DataW.trod_int Try.underlying3 h0
  obtain ⟨i, e1⟩ := trod_id h1
  obtain ⟨b, e2, _, _⟩ := DataW.trod_int Try.underlying3 h2
  simp only [List.drop_zero, List.drop_succ_cons, List.take_succ_cons, List.take_zero, List.cons.injEq, and_true, encId] at e0 e1 e2
  obtain ⟨e1, e3⟩ := e1
  subst e0 e1 e2 e3
  exact ⟨⟨a, i, b⟩, rfl⟩

set_option maxRecDepth 100000 in
theorem lifted (os : Os) (started : os.Started) (H : Type) (enc : TypeId × Value → H) :
    ReturnsInHanded {} Try.checked os 3 .any (Rows.wheelPlaysSpec.pre6 enc Try.prog Try.f3 Rows.wheelPlaysRow.domain false) (Rows.wheelPlaysSpec.post enc Try.prog Try.f3 false true false false) := by
  refine returnsInHanded_of_change (C := Try.checked) own started (by kernel_rfl) Try.func3
    (ChangeSpec.witness6 (enc := enc) (C := Try.checked) false ⟨#[], #[.slice none 0 0], []⟩ 8 (by kernel_rfl) (by kernel_rfl) (by kernel_rfl) (by kernel_rfl)) ?_
  intro W base args ds gs before hval0 hW hcnd _
  have hval : ∀ (j : Nat) t v, Try.f3.params[j]? = some t → args[j]? = some v → Value.okWide Try.prog W .any base t v := hval0
  have hW' := hW
  obtain ⟨p, q, hA0, hV, rfl, hfz, hnd⟩ := hW
  have hA : DataW.TrodAll enc Try.prog W 0 (fun _ => true) true Try.f3.params.toList args.toList ds p := hA0
  rw [Try.params3] at hA hval
  have hAll := hA
  obtain ⟨v0, vs0, d0, ds0, p0, q0, hargs, rfl, rfl, h0, r0⟩ := trodAll_cons hA
  obtain ⟨rfl, rfl, rfl⟩ := trodAll_nil r0
  obtain rfl : args = #[v0] := by cases args; simp_all
  obtain ⟨rfl, rfl⟩ := trodVars_none hV
  obtain ⟨a, g, off, cap, L, hv0, hR, hlc, hcm, _⟩ := open_rds (enc := encWAct) Try.underlying22 cellsWAct (fun _ => rfl) (by omega) trod_wact (okWide_slice Try.underlying22 (hval 0 22 v0 rfl rfl)) h0
  subst hv0
  clear hA0 hval0
  have hwalk : Calls Try.prog 3 #[.slice a L.length cap] W fun e w' => e = .returned (.bool true) ∧ Below W.heap.size W w' := by
    by_cases hgt : 100 < L.length
    · exact WheelPlays_great W a cap L.length hgt
    · exact WheelPlays_small W a g off cap L hR (by omega)
  refine hwalk.mono fun e W' ⟨he, bel⟩ => ?_
  subst he
  exact ⟨_, rfl, _, _, _, [], _, [], hW', trodAll_mk1 (shut_bool Try.underlying4 _), trodAll_below Try.laidOut bel (by intro t ht; simp at ht; rcases ht with rfl; exact ⟨by kernel_rfl, of_decide_eq_true (by kernel_rfl)⟩) hAll, rfl, bel.frame _, fun h => by cases h⟩

theorem proved : Rows.WheelPlaysSaid :=
  OpenClaim.holds_of_wide 3 Try.f3 rfl rfl rfl rfl rfl rfl rfl ⟨rfl, rfl, rfl, rfl, rfl⟩ rfl rfl rfl rfl rfl (by kernel_rfl) Try.func3 (by kernel_rfl)
    (of_decide_eq_true (by kernel_rfl)) (by unfold Func.isWrapper; first | (rw [if_pos (by decide +kernel)]; kernel_rfl) | (rw [if_neg (by decide +kernel)]; exact ⟨rfl, rfl⟩))
    (fun os started H enc _ => lifted os started H enc)
#print axioms proved
end Go.Proofs.Ytlepfohhfngndaa.WheelPlaysProof
