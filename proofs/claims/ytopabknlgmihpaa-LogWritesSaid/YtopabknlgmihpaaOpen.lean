/- Slices that came in: their elements as Lean values. -/
import Derived.Test.YtopabknlgmihpaaSlice
import Derived.Deep.Slices
import Derived.ProofKit
namespace Go.Proofs.Ytopabknlgmihpaa
open Go Go.RowKit Go.ChangeShapes Go.WideShapes Go.ChangeAt Go.Deep
section
variable {H α : Type} {ec : TypeId × Value → H} {P : Program} {w : World} {base : Nat} {spare : Nat → Bool} {held : Bool} {enc : α → List Value} {k : Nat}

theorem choose_list (Q : Nat → α → Prop) : ∀ n, (∀ i, i < n → ∃ y, Q i y) → ∃ L : List α, L.length = n ∧ ∀ i x, L[i]? = some x → Q i x
  | 0, _ => ⟨[], rfl, fun i x h => by simp at h⟩
  | n + 1, h => by
    obtain ⟨L, hL, hQ⟩ := choose_list Q n (fun i hi => h i (by omega))
    obtain ⟨y, hy⟩ := h n (by omega)
    refine ⟨L ++ [y], by simp [hL], fun i x hx => ?_⟩
    by_cases hi : i < n
    · rw [List.getElem?_append_left (by omega)] at hx
      exact hQ i x hx
    · have hin : i = n := by
        have := (List.getElem?_eq_some_iff.1 hx).1
        simp [hL] at this
        omega
      subst hin
      rw [List.getElem?_append_right (by omega), hL] at hx
      simp at hx
      subst hx
      exact hy

/-- A slice that came in, of whatever element type. -/
theorem open_rds {t e : TypeId} {v : Value} {d : DataW H} {p : List MemPlace} (ht : P.underlying t = some (.slice e)) (hC : P.cellsOf e = k) (hk : ∀ x, (enc x).length = k) (hpos : 0 < k)
    (helem : ∀ n cs x, DataW.trod ec P w base spare held n e cs = some x → ∃ y : α, cs = enc y) (hv : ∃ a len cap, v = .slice a len cap) (h : DataW.Trod ec P w base spare held t v d p) :
    ∃ a g off cap, ∃ L : List α, v = .slice a L.length cap ∧ RdS enc k w a g off L ∧ L.length ≤ cap ∧ cap ≤ maxLen ∧ (a = none → cap = 0) := by
  obtain ⟨a, len, cap, rfl⟩ := hv
  obtain ⟨fuel, hf⟩ := h
  rcases open_slice ht hf with ⟨hcs, _⟩ | ⟨a', len', cap', m, n, D, Pl, hcs, hb, hl, hm, hmm, _, hi⟩
  · simp [Value.cells] at hcs
    obtain ⟨rfl, rfl, rfl⟩ := hcs
    exact ⟨none, 0, 0, 0, [], rfl, ⟨fun h => absurd rfl h, fun h => absurd rfl h, RdAt.nil⟩, Nat.le_refl _, Nat.zero_le _, fun _ => rfl⟩
  · simp [Value.cells] at hcs
    obtain ⟨rfl, rfl, rfl⟩ := hcs
    have hlm : len ≤ m := by rw [hmm]; split <;> omega
    obtain ⟨L, hL, hQ⟩ := choose_list (fun i (y : α) => ∀ j u, (enc y)[j]? = some u → w.cell? (a'.add (i * k + j)) = some u) len (fun i hil => by
      obtain ⟨cs', hc, ht'⟩ := hi i (by omega)
      rw [hC] at hc
      obtain ⟨y, hy⟩ := helem n cs' _ ht'
      obtain ⟨_, hcl, hat⟩ := World.cells?_some hc
      refine ⟨y, fun j u hu => ?_⟩
      have hj : j < k := by
        have := (List.getElem?_eq_some_iff.1 hu).1
        rw [hk] at this
        exact this
      rw [← Go.Deep.add_add, hat j hj, hy]
      exact hu)
    subst hL
    refine ⟨some a', a'.block, a'.off, cap, L, rfl, ⟨fun hne => ?_, fun hne => ?_, fun i x hx j u hu => ?_⟩, hl, hm, fun h => by cases h⟩
    · have h1 : ∃ u, w.cell? (a'.add 0) = some u := by
        cases L with
        | nil => exact absurd rfl hne
        | cons y r =>
          have : 0 < (enc y).length := by rw [hk]; exact hpos
          exact ⟨(enc y)[0], by simpa using hQ 0 y rfl 0 _ (by simp [this])⟩
      obtain ⟨u, hu⟩ := h1
      obtain ⟨b, o, sp⟩ := a'
      cases sp with
      | none => rfl
      | some s =>
        exfalso
        unfold World.cell? Addr.add at hu
        simp at hu
        split at hu <;> cases hu
    · cases L with
      | nil => exact absurd rfl hne
      | cons y r =>
        have : 0 < (enc y).length := by rw [hk]; exact hpos
        have := hQ 0 y rfl 0 (enc y)[0] (by simp [this])
        simp only [Nat.zero_mul, Nat.zero_add] at this
        exact World.block_lt_of_cell? w _ this
    · have hh := hQ i x hx j u hu
      have hsp : a'.spot = none := by
        obtain ⟨b, o, sp⟩ := a'
        cases sp with
        | none => rfl
        | some s =>
          exfalso
          unfold Addr.add at hh
          split at hh
          · unfold World.cell? at hh
            simp at hh
            split at hh <;> cases hh
          · have h0 : 0 < (enc x).length := by rw [hk]; exact hpos
            have hx0 := hx
            cases i with
            | zero =>
              have h2 := hQ 0 x hx 0 (enc x)[0] (by simp [h0])
              unfold World.cell? Addr.add at h2
              simp at h2
              split at h2 <;> cases h2
            | succ i =>
              have hil : i + 1 < L.length := (List.getElem?_eq_some_iff.1 hx).1
              have h0' : 0 < (enc L[0]).length := by rw [hk]; exact hpos
              have h2 := hQ 0 L[0] (by simp) 0 (enc L[0])[0] (by simp [h0'])
              unfold World.cell? Addr.add at h2
              simp at h2
              split at h2 <;> cases h2
      obtain ⟨b, o, sp⟩ := a'
      simp only at hsp
      subst hsp
      rw [add_lit] at hh
      simpa [Nat.add_assoc] using hh
end
end Go.Proofs.Ytopabknlgmihpaa
