/- What is common to the laws' rows: arguments that were there read as before. -/
import Derived.Test.YtlepfohhfngndaaRows
import Derived.Test.YtlepfohhfngndaaId
import Derived.Test.YtlepfohhfngndaaOpen
import Derived.ProofKit
import Derived.OpenShut
import Derived.Lib.SmallJoins
namespace Go.Proofs.Ytlepfohhfngndaa
open Go Go.RowKit Go.ChangeShapes Go.WideShapes Go.ChangeAt

theorem own : ownKnob Try.prog.godebug = none := by kernel_rfl
section
variable {H : Type} {enc : TypeId × Value → H} {P : Program}
/-- Below: each argument reads as it did. -/
theorem trodAll_below (hl : laidOutB P = true) {W W' : World} (hb : Below W.heap.size W W') : ∀ {ts : List TypeId} {vs : List Value} {ds : List (DataW H)} {p : List MemPlace},
    (∀ t ∈ ts, P.readableRec t = true ∧ t < P.types.size) → DataW.TrodAll enc P W 0 (fun _ => true) true ts vs ds p → DataW.TrodAll enc P W' 0 (fun b => decide (b < W.heap.size)) true ts vs ds p
  | [], _, _, _, _, h => by
    obtain ⟨rfl, rfl, rfl⟩ := trodAll_nil h
    exact trodAll_mk0
  | t :: ts, _, _, _, hr, h => by
    obtain ⟨v, vs, d, ds, p, q, rfl, rfl, rfl, h1, h2⟩ := trodAll_cons h
    have hlt : ∀ x ∈ p, x.block < W.heap.size := by obtain ⟨m, hm⟩ := h1; exact DataW.trod_lt m _ _ _ hm
    have ⟨r1, r2⟩ := hr t (List.mem_cons_self)
    exact trodAll_cons_mk (Below.trod hl r1 r2 h1 hb hlt) (trodAll_below hl hb (fun t ht => hr t (List.mem_cons_of_mem _ ht)) h2)
end

theorem wf_I64 {x : Int} (h : (Lit.int .i64 x).wf = true) : I64 x := by
  simp [Lit.wf, IntKind.min, IntKind.max, IntKind.signed, IntKind.bits] at h
  unfold I64
  omega
set_option maxRecDepth 100000 in
/-- An id that came in. -/
theorem open_id {H : Type} {enc : TypeId × Value → H} {w : World} {base : Nat} {spare : Nat → Bool} {held : Bool} {r : Reach} {b0 : Nat} {v : Value} {d : DataW H} {p : List MemPlace}
    (hv : Value.okWide Try.prog w r b0 28 v) (h : DataW.Trod enc Try.prog w base spare held 28 v d p) : ∃ i : Id, v = .agg #[.int .i64 i.r, .int .i64 i.n] := by
  obtain ⟨c0, c1, y0, y1, m, rfl, rfl, rfl, hy0, hy1⟩ := Go.Joins.open_agg2 Try.underlying28 (by kernel_rfl) cellsId hv h
  obtain ⟨a, e0, _, wa⟩ := DataW.trod_int Try.underlying3 hy0
  obtain ⟨b, e1, _, wb⟩ := DataW.trod_int Try.underlying3 hy1
  simp only [List.cons.injEq, and_true] at e0 e1
  subst e0 e1
  exact ⟨⟨a, b, wf_I64 wa, wf_I64 wb⟩, rfl⟩
section
variable {H : Type} {ec : TypeId × Value → H} {w : World} {base : Nat} {spare : Nat → Bool} {held : Bool}
set_option maxRecDepth 100000 in
theorem trod_id {n : Nat} {cs : List Value} {x : DataW H × List MemPlace} (h : DataW.trod ec Try.prog w base spare held n 28 cs = some x) : ∃ i : Id, cs = encId i := by
  obtain ⟨xs, m, _, _, hlen, hsz, hf⟩ := DataW.trod_struct Try.underlying28 h
  rw [cellsId] at hlen
  obtain ⟨c0, c1, rfl⟩ : ∃ c0 c1, cs = [c0, c1] := by
    match cs, hlen with
    | [c0, c1], _ => exact ⟨c0, c1, rfl⟩
  obtain ⟨y0, y1, rfl⟩ : ∃ y0 y1, xs = [y0, y1] := by
    match xs, hsz with
    | [y0, y1], _ => exact ⟨y0, y1, rfl⟩
  have h0 : DataW.trod ec Try.prog w base spare held m 3 (([c0, c1].drop 0).take (Try.prog.cellsOf 3)) = some y0 := hf 0 _ rfl
  have h1 : DataW.trod ec Try.prog w base spare held m 3 (([c0, c1].drop 1).take (Try.prog.cellsOf 3)) = some y1 := hf 1 _ rfl
  rw [cellsInt] at h0 h1
  obtain ⟨a, e0, _, wa⟩ := DataW.trod_int Try.underlying3 h0
  obtain ⟨b, e1, _, wb⟩ := DataW.trod_int Try.underlying3 h1
  simp only [List.drop_zero, List.drop_succ_cons, List.take_succ_cons, List.take_zero, List.cons.injEq, and_true] at e0 e1
  subst e0 e1
  exact ⟨⟨a, b, wf_I64 wa, wf_I64 wb⟩, rfl⟩
end
end Go.Proofs.Ytlepfohhfngndaa
