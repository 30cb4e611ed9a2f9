/- Commands and acts on an index that came in. -/
import Derived.Test.YtlepfohhfngndaaLaw
import Derived.Test.YtlepfohhfngndaaIndexLaw
namespace Go.Proofs.Ytlepfohhfngndaa
open Go Go.RowKit Go.ChangeShapes Go.WideShapes Go.ChangeAt

theorem cellsStr : Try.prog.cellsOf 9 = 1 := by kernel_rfl
theorem cellsCmd : Try.prog.cellsOf 49 = 6 := by kernel_rfl
theorem cellsA : Try.prog.cellsOf 56 = 10 := by kernel_rfl
section
variable {H : Type} {ec : TypeId × Value → H} {w : World} {base : Nat} {spare : Nat → Bool} {held : Bool}
/-- A struct that came in, by value. -/
theorem open_struct {α : Type} {P : Program} {r : Reach} {b0 : Nat} {t : TypeId} {fs : Array Field} {v : Value} {d : DataW H} {p : List MemPlace} {enc : α → List Value} (hs : P.underlying t = some (.struct fs))
    (helem : ∀ n cs x, DataW.trod ec P w base spare held n t cs = some x → ∃ y : α, cs = enc y) (hv : Value.okWide P w r b0 t v) (h : DataW.Trod ec P w base spare held t v d p) : ∃ y : α, v = .agg (enc y).toArray := by
  obtain ⟨cs, rfl, _⟩ := okWide_struct hs hv
  obtain ⟨fuel, hf⟩ := h
  obtain ⟨y, hy⟩ := helem _ _ _ hf
  refine ⟨y, ?_⟩
  simp only [Value.cells] at hy
  rw [← hy]
set_option maxRecDepth 100000 in
theorem trod_cmd (n : Nat) (cs : List Value) (x : DataW H × List MemPlace) (h : DataW.trod ec Try.prog w base spare held n 49 cs = some x) : ∃ c : Cmd, cs = encCmd c := by
  obtain ⟨xs, m, _, _, hlen, hsz, hf⟩ := DataW.trod_struct Try.underlying49 h
  rw [cellsCmd] at hlen
  obtain ⟨c0, c1, c2, c3, c4, c5, rfl⟩ : ∃ c0 c1 c2 c3 c4 c5, cs = [c0, c1, c2, c3, c4, c5] := by
    match cs, hlen with
    | [c0, c1, c2, c3, c4, c5], _ => exact ⟨c0, c1, c2, c3, c4, c5, rfl⟩
  obtain ⟨y0, y1, y2, y3, y4, y5, rfl⟩ : ∃ y0 y1 y2 y3 y4 y5, xs = [y0, y1, y2, y3, y4, y5] := by
    match xs, hsz with
    | [y0, y1, y2, y3, y4, y5], _ => exact ⟨y0, y1, y2, y3, y4, y5, rfl⟩
  have h0 : DataW.trod ec Try.prog w base spare held m 3 (([c0, c1, c2, c3, c4, c5].drop 0).take (Try.prog.cellsOf 3)) = some y0 := hf 0 _ rfl
  have h1 : DataW.trod ec Try.prog w base spare held m 3 (([c0, c1, c2, c3, c4, c5].drop 1).take (Try.prog.cellsOf 3)) = some y1 := hf 1 _ rfl
  have h2 : DataW.trod ec Try.prog w base spare held m 3 (([c0, c1, c2, c3, c4, c5].drop 2).take (Try.prog.cellsOf 3)) = some y2 := hf 2 _ rfl
  have h3 : DataW.trod ec Try.prog w base spare held m 9 (([c0, c1, c2, c3, c4, c5].drop 3).take (Try.prog.cellsOf 9)) = some y3 := hf 3 _ rfl
  have h4 : DataW.trod ec Try.prog w base spare held m 9 (([c0, c1, c2, c3, c4, c5].drop 4).take (Try.prog.cellsOf 9)) = some y4 := hf 4 _ rfl
  have h5 : DataW.trod ec Try.prog w base spare held m 3 (([c0, c1, c2, c3, c4, c5].drop 5).take (Try.prog.cellsOf 3)) = some y5 := hf 5 _ rfl
  rw [cellsInt] at h0 h1 h2 h5
  rw [cellsStr] at h3 h4
  obtain ⟨a, e0, _, _⟩ := DataW.trod_int Try.underlying3 h0
  obtain ⟨b, e1, _, wb⟩ := DataW.trod_int Try.underlying3 h1
  obtain ⟨c, e2, _, _⟩ := DataW.trod_int Try.underlying3 h2
  obtain ⟨k, e3, _, wk⟩ := DataW.trod_string Try.underlying9 h3
  obtain ⟨v, e4, _, _⟩ := DataW.trod_string Try.underlying9 h4
  obtain ⟨r, e5, _, _⟩ := DataW.trod_int Try.underlying3 h5
  simp only [List.drop_zero, List.drop_succ_cons, List.take_succ_cons, List.take_zero, List.cons.injEq, and_true] at e0 e1 e2 e3 e4 e5
  subst e0 e1 e2 e3 e4 e5
  exact ⟨⟨a, b, c, k, v, r, wf_I64 wb, wk⟩, rfl⟩
set_option maxRecDepth 100000 in
theorem open_cmd {r : Reach} {b0 : Nat} {v : Value} {d : DataW H} {p : List MemPlace} (hv : Value.okWide Try.prog w r b0 49 v) (h : DataW.Trod ec Try.prog w base spare held 49 v d p) :
    ∃ c : Cmd, v = .agg #[.int .i64 c.kind, .int .i64 c.client, .int .i64 c.seq, .string c.key, .string c.val, .int .i64 c.rev] := open_struct (enc := encCmd) Try.underlying49 trod_cmd hv h
set_option maxRecDepth 100000 in
theorem trod_iact (n : Nat) (cs : List Value) (x : DataW H × List MemPlace) (h : DataW.trod ec Try.prog w base spare held n 56 cs = some x) : ∃ c : IAct, cs = encA c := by
  obtain ⟨xs, m, _, _, hlen, hsz, hf⟩ := DataW.trod_struct Try.underlying56 h
  rw [cellsA] at hlen
  obtain ⟨c0, c1, c2, c3, c4, c5, c6, c7, c8, c9, rfl⟩ : ∃ c0 c1 c2 c3 c4 c5 c6 c7 c8 c9, cs = [c0, c1, c2, c3, c4, c5, c6, c7, c8, c9] := by
    match cs, hlen with
    | [c0, c1, c2, c3, c4, c5, c6, c7, c8, c9], _ => exact ⟨c0, c1, c2, c3, c4, c5, c6, c7, c8, c9, rfl⟩
  obtain ⟨y0, y1, y2, y3, rfl⟩ : ∃ y0 y1 y2 y3, xs = [y0, y1, y2, y3] := by
    match xs, hsz with
    | [y0, y1, y2, y3], _ => exact ⟨y0, y1, y2, y3, rfl⟩
  have h0 : DataW.trod ec Try.prog w base spare held m 3 (([c0, c1, c2, c3, c4, c5, c6, c7, c8, c9].drop 0).take (Try.prog.cellsOf 3)) = some y0 := hf 0 _ rfl
  have h1 : DataW.trod ec Try.prog w base spare held m 28 (([c0, c1, c2, c3, c4, c5, c6, c7, c8, c9].drop 1).take (Try.prog.cellsOf 28)) = some y1 := hf 1 _ rfl
  have h2 : DataW.trod ec Try.prog w base spare held m 49 (([c0, c1, c2, c3, c4, c5, c6, c7, c8, c9].drop 3).take (Try.prog.cellsOf 49)) = some y2 := hf 2 _ rfl
  have h3 : DataW.trod ec Try.prog w base spare held m 3 (([c0, c1, c2, c3, c4, c5, c6, c7, c8, c9].drop 9).take (Try.prog.cellsOf 3)) = some y3 := hf 3 _ rfl
  rw [cellsInt] at h0 h3
  rw [cellsId] at h1
  rw [cellsCmd] at h2
  obtain ⟨a, e0, _, _⟩ := DataW.trod_int Try.underlying3 h0
  obtain ⟨i, e1⟩ := trod_id h1
  obtain ⟨C, e2⟩ := trod_cmd _ _ _ h2
  obtain ⟨b, e3, _, _⟩ := DataW.trod_int Try.underlying3 h3
  simp only [List.drop_zero, List.drop_succ_cons, List.take_succ_cons, List.take_zero, List.cons.injEq, and_true, encId, encCmd] at e0 e1 e2 e3
  obtain ⟨e1, e4⟩ := e1
  obtain ⟨k0, k1, k2, k3, k4, k5⟩ := e2
  subst e0 e1 e3 e4 k0 k1 k2 k3 k4 k5
  exact ⟨⟨a, i, C, b⟩, rfl⟩
end
end Go.Proofs.Ytlepfohhfngndaa
