/- Acts on a disk that came in: a list of structs that hold slices. -/
import Derived.Test.YtopabknlgmihpaaDiskOpen
import Derived.Test.YtopabknlgmihpaaOpen
import Derived.Test.YtopabknlgmihpaaDiskRoom
namespace Go.Proofs.Ytopabknlgmihpaa
open Go Go.RowKit Go.ChangeShapes Go.WideShapes Go.ChangeAt Go.Deep

section
variable {H : Type} {ec : TypeId × Value → H} {w : World} {base : Nat} {spare : Nat → Bool} {held : Bool} {P : Program} {α : Type} {enc : α → List Value} {k : Nat}
/-- A slice of whatever element type, as cells; what is known of an element is kept. -/
theorem trod_rds {t e : TypeId} {n0 : Nat} {cs : List Value} {x : DataW H × List MemPlace} (Q : α → Prop) (ht : P.underlying t = some (.slice e)) (hC : P.cellsOf e = k) (hk : ∀ x, (enc x).length = k) (hpos : 0 < k)
    (helem : ∀ n cs x, DataW.trod ec P w base spare held n e cs = some x → ∃ y : α, cs = enc y ∧ Q y) (h : DataW.trod ec P w base spare held n0 t cs = some x) :
    ∃ a g off cap, ∃ L : List α, cs = [.slice a L.length cap] ∧ RdS enc k w a g off L ∧ L.length ≤ cap ∧ cap ≤ maxLen ∧ (a = none → cap = 0) ∧ ∀ y ∈ L, Q y := by
  rcases open_slice ht h with ⟨hcs, _⟩ | ⟨a', len', cap', m, n, D, Pl, hcs, hb, hl, hm, hmm, _, hi⟩
  · exact ⟨none, 0, 0, 0, [], hcs, ⟨fun h => absurd rfl h, fun h => absurd rfl h, RdAt.nil⟩, Nat.le_refl _, Nat.zero_le _, fun _ => rfl, fun y hy => by cases hy⟩
  · have hlm : len' ≤ m := by rw [hmm]; split <;> omega
    obtain ⟨L, hL, hQ⟩ := choose_list (fun i (y : α) => (∀ j u, (enc y)[j]? = some u → w.cell? (a'.add (i * k + j)) = some u) ∧ Q y) len' (fun i hil => by
      obtain ⟨cs', hc, ht'⟩ := hi i (by omega)
      rw [hC] at hc
      obtain ⟨y, hy, hq⟩ := helem n cs' _ ht'
      obtain ⟨_, hcl, hat⟩ := World.cells?_some hc
      refine ⟨y, fun j u hu => ?_, hq⟩
      have hj : j < k := by
        have := (List.getElem?_eq_some_iff.1 hu).1
        rw [hk] at this
        exact this
      rw [← Go.Deep.add_add, hat j hj, hy]
      exact hu)
    subst hL
    refine ⟨some a', a'.block, a'.off, cap', L, hcs, ⟨fun hne => ?_, fun hne => ?_, fun i x hx j u hu => ?_⟩, hl, hm, (fun h => by cases h), fun y hy => ?_⟩
    · have h1 : ∃ u, w.cell? (a'.add 0) = some u := by
        cases L with
        | nil => exact absurd rfl hne
        | cons y r =>
          have : 0 < (enc y).length := by rw [hk]; exact hpos
          exact ⟨(enc y)[0], by simpa using (hQ 0 y rfl).1 0 _ (by simp [this])⟩
      obtain ⟨u, hu⟩ := h1
      obtain ⟨b, o, sp⟩ := a'
      cases sp with
      | none => rfl
      | some s =>
        exfalso
        unfold World.cell? Addr.add at hu
        simp at hu
        split at hu <;> cases hu
    · cases L with
      | nil => exact absurd rfl hne
      | cons y r =>
        have : 0 < (enc y).length := by rw [hk]; exact hpos
        have := (hQ 0 y rfl).1 0 (enc y)[0] (by simp [this])
        simp only [Nat.zero_mul, Nat.zero_add] at this
        exact World.block_lt_of_cell? w _ this
    · have hh := (hQ i x hx).1 j u hu
      have hsp : a'.spot = none := by
        obtain ⟨b, o, sp⟩ := a'
        cases sp with
        | none => rfl
        | some s =>
          exfalso
          unfold Addr.add at hh
          split at hh
          · unfold World.cell? at hh
            simp at hh
            split at hh <;> cases hh
          · have h0 : 0 < (enc x).length := by rw [hk]; exact hpos
            have hx0 := hx
            cases i with
            | zero =>
              have h2 := (hQ 0 x hx).1 0 (enc x)[0] (by simp [h0])
              unfold World.cell? Addr.add at h2
              simp at h2
              split at h2 <;> cases h2
            | succ i =>
              have hil : i + 1 < L.length := (List.getElem?_eq_some_iff.1 hx).1
              have h0' : 0 < (enc L[0]).length := by rw [hk]; exact hpos
              have h2 := (hQ 0 L[0] (by simp)).1 0 (enc L[0])[0] (by simp [h0'])
              unfold World.cell? Addr.add at h2
              simp at h2
              split at h2 <;> cases h2
      obtain ⟨b, o, sp⟩ := a'
      simp only at hsp
      subst hsp
      rw [add_lit] at hh
      simpa [Nat.add_assoc] using hh
    · obtain ⟨i, hi2, e⟩ := List.getElem_of_mem hy
      exact (hQ i y (by rw [← e]; simp [hi2])).2
/-- The same of a value. -/
theorem open_rdsQ {t e : TypeId} {v : Value} {d : DataW H} {p : List MemPlace} (Q : α → Prop) (ht : P.underlying t = some (.slice e)) (hC : P.cellsOf e = k) (hk : ∀ x, (enc x).length = k) (hpos : 0 < k)
    (helem : ∀ n cs x, DataW.trod ec P w base spare held n e cs = some x → ∃ y : α, cs = enc y ∧ Q y) (hv : ∃ a len cap, v = .slice a len cap) (h : DataW.Trod ec P w base spare held t v d p) :
    ∃ a g off cap, ∃ L : List α, v = .slice a L.length cap ∧ RdS enc k w a g off L ∧ L.length ≤ cap ∧ cap ≤ maxLen ∧ (a = none → cap = 0) ∧ ∀ y ∈ L, Q y := by
  obtain ⟨a, len, cap, rfl⟩ := hv
  obtain ⟨fuel, hf⟩ := h
  obtain ⟨a', g, off, cap', L, hcs, hr⟩ := trod_rds Q ht hC hk hpos helem hf
  simp [Value.cells] at hcs
  obtain ⟨rfl, rfl, rfl⟩ := hcs
  exact ⟨a, g, off, cap, L, rfl, hr⟩
end
section
variable {H : Type} {ec : TypeId × Value → H} {w : World} {base : Nat} {spare : Nat → Bool} {held : Bool}
theorem cellsSlB : Try.prog.cellsOf 22 = 1 := by kernel_rfl
theorem cellsSlI : Try.prog.cellsOf 31 = 1 := by kernel_rfl
theorem cellsIn : Try.prog.cellsOf 3 = 1 := by kernel_rfl
theorem cellsSt : Try.prog.cellsOf 9 = 1 := by kernel_rfl
theorem cellsDA : Try.prog.cellsOf 46 = 6 := by kernel_rfl
theorem wfI64 {x : Int} (h : (Lit.int .i64 x).wf = true) : I64 x := by
  simp [Lit.wf, IntKind.min, IntKind.max, IntKind.signed, IntKind.bits] at h
  unfold I64
  omega
set_option maxRecDepth 100000 in
theorem trod_dact (n : Nat) (cs : List Value) (x : DataW H × List MemPlace) (h : DataW.trod ec Try.prog w base spare held n 46 cs = some x) : ∃ c : DAct, cs = encD c ∧ OkD w c := by
  obtain ⟨xs, m, _, _, hlen, hsz, hf⟩ := DataW.trod_struct Try.underlying46 h
  rw [cellsDA] at hlen
  obtain ⟨c0, c1, c2, c3, c4, c5, rfl⟩ : ∃ c0 c1 c2 c3 c4 c5, cs = [c0, c1, c2, c3, c4, c5] := by
    match cs, hlen with
    | [c0, c1, c2, c3, c4, c5], _ => exact ⟨c0, c1, c2, c3, c4, c5, rfl⟩
  obtain ⟨y0, y1, y2, y3, y4, y5, rfl⟩ : ∃ y0 y1 y2 y3 y4 y5, xs = [y0, y1, y2, y3, y4, y5] := by
    match xs, hsz with
    | [y0, y1, y2, y3, y4, y5], _ => exact ⟨y0, y1, y2, y3, y4, y5, rfl⟩
  have h0 : DataW.trod ec Try.prog w base spare held m 3 (([c0, c1, c2, c3, c4, c5].drop 0).take (Try.prog.cellsOf 3)) = some y0 := hf 0 _ rfl
  have h1 : DataW.trod ec Try.prog w base spare held m 9 (([c0, c1, c2, c3, c4, c5].drop 1).take (Try.prog.cellsOf 9)) = some y1 := hf 1 _ rfl
  have h2 : DataW.trod ec Try.prog w base spare held m 9 (([c0, c1, c2, c3, c4, c5].drop 2).take (Try.prog.cellsOf 9)) = some y2 := hf 2 _ rfl
  have h3 : DataW.trod ec Try.prog w base spare held m 22 (([c0, c1, c2, c3, c4, c5].drop 3).take (Try.prog.cellsOf 22)) = some y3 := hf 3 _ rfl
  have h4 : DataW.trod ec Try.prog w base spare held m 3 (([c0, c1, c2, c3, c4, c5].drop 4).take (Try.prog.cellsOf 3)) = some y4 := hf 4 _ rfl
  have h5 : DataW.trod ec Try.prog w base spare held m 31 (([c0, c1, c2, c3, c4, c5].drop 5).take (Try.prog.cellsOf 31)) = some y5 := hf 5 _ rfl
  rw [cellsIn] at h0 h4
  rw [cellsSt] at h1 h2
  rw [cellsSlB] at h3
  rw [cellsSlI] at h5
  obtain ⟨a, e0, _, _⟩ := DataW.trod_int Try.underlying3 h0
  obtain ⟨A, e1, _, wA⟩ := DataW.trod_string Try.underlying9 h1
  obtain ⟨B, e2, _, wB⟩ := DataW.trod_string Try.underlying9 h2
  obtain ⟨aP, gP, oP, cP, LP, e3, rP, lP, mP, _, _⟩ := trod_rds (enc := encB) (k := 1) (fun _ => True) Try.underlying22 cellsB (fun _ => rfl) (by omega) (fun n cs x h => by obtain ⟨y, hy⟩ := trod_b n cs x h; exact ⟨y, hy, trivial⟩) h3
  obtain ⟨b, e4, _, wb⟩ := DataW.trod_int Try.underlying3 h4
  obtain ⟨aK, gK, oK, cK, LK, e5, rK, lK, mK, nK, _⟩ := trod_rds (enc := encI) (k := 1) (fun _ => True) Try.underlying31 cellsIn (fun _ => rfl) (by omega) (fun n cs x h => by obtain ⟨y, hy⟩ := trod_i n cs x h; exact ⟨y, hy, trivial⟩) h5
  simp only [List.drop_zero, List.drop_succ_cons, List.take_succ_cons, List.take_zero, List.cons.injEq, and_true] at e0 e1 e2 e3 e4 e5
  subst e0 e1 e2 e3 e4 e5
  exact ⟨⟨a, ⟨A, wA⟩, ⟨B, wB⟩, aP, gP, oP, cP, LP, b, aK, gK, oK, cK, LK⟩, rfl, rP, lP, mP, rK, lK, mK, nK, wfI64 wb⟩
end
end Go.Proofs.Ytopabknlgmihpaa
