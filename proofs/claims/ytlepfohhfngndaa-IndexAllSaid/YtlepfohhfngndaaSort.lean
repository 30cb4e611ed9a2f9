/- slices.SortFunc over a row of structs that the call owns: it holds the elements in the order that the comparison gives. -/
import Derived.Shelf.SlSortCmp.NoneTotal
import Derived.Test.YtlepfohhfngndaaSlice
namespace Go.Proofs.Ytlepfohhfngndaa
open Go Go.Proofs Go.RowKit Go.Sort Go.Shelf Go.Lib
section
variable {α : Type} [Inhabited α] {enc : α → List Value} {k : Nat}

theorem sorted_other {w : World} {g n i : Nat} {F : Array Value} {os : Array Obj} (hi : i < w.heap.size) (hne : i ≠ g) : (grow (putRow id (Sort.ahead w n) g 0 F) os).heap[i]? = w.heap[i]? := by
  unfold grow putRow mapBlock Sort.ahead
  simp only
  rw [Array.getElem?_append, if_pos (by simpa using hi), Array.getElem?_modify, if_neg (fun h => hne h.symm)]
theorem sorted_same {w : World} {g n : Nat} {F : Array Value} {os : Array Obj} {cur : Array Value} {e : TypeId} {fr : Nat × Nat} (hg : w.heap[g]? = some (.cells cur e fr)) : (grow (putRow id (Sort.ahead w n) g 0 F) os).heap[g]? = some (.cells (putCells id 0 F cur) e fr) := by
  have hi : g < w.heap.size := (Array.getElem?_eq_some_iff.1 hg).1
  unfold grow putRow mapBlock Sort.ahead
  simp only
  rw [Array.getElem?_append, if_pos (by simpa using hi), Array.getElem?_modify, if_pos rfl, hg]
  rfl
theorem sorted_keeps {w : World} {g n : Nat} {F : Array Value} {os : Array Obj} : Keeps (· = g) w (grow (putRow id (Sort.ahead w n) g 0 F) os) := by
  refine ⟨rfl, rfl, rfl, ?_, fun i hi hne => sorted_other hi hne⟩
  unfold grow putRow mapBlock Sort.ahead
  simp
theorem flatK_get (hk : ∀ x, (enc x).length = k) (d : Array α) (t : Nat) (ht : t < d.size * k) : (flatK enc k d)[t]? = (d.toList.flatMap enc)[t]? := by
  have hpos : 0 < k := by
    rcases Nat.eq_zero_or_pos k with h | h
    · subst h; simp at ht
    · exact h
  have h1 : t / k < d.size := by rw [Nat.div_lt_iff_lt_mul hpos]; exact ht
  have h2 : t % k < k := Nat.mod_lt _ hpos
  have hd : d[t / k]! = d[t / k] := getElem!_pos d _ h1
  have hj : t % k < (enc d[t / k]).length := by rw [hk]; exact h2
  have e1 := flat_get hk d.toList (t / k) d[t / k] (by simp [h1]) (t % k) (enc d[t / k])[t % k] (by simp [hj])
  rw [Nat.mul_comm, Nat.div_add_mod] at e1
  rw [e1, Array.getElem?_eq_getElem (by simpa using ht)]
  congr 1
  have e2 := get_flatK enc k d t ht
  rw [getElem!_pos (flatK enc k d) t (by simpa using ht), hd, getElem!_pos (enc d[t / k]) _ hj] at e2
  exact e2
theorem take_putK (hk : ∀ x, (enc x).length = k) (d : Array α) (cur : Array Value) (h : d.size * k ≤ cur.size) : (putCells id 0 (flatK enc k d) cur).toList.take (d.size * k) = d.toList.flatMap enc := by
  apply List.ext_getElem?
  intro t
  rw [List.getElem?_take]
  by_cases ht : t < d.size * k
  · rw [if_pos ht, ← flatK_get hk d t ht]
    have hc : t < cur.size := by omega
    have hF : t < (flatK enc k d).size := by simpa using ht
    unfold putCells
    rw [Array.getElem?_toList, Array.getElem?_mapIdx, Array.getElem?_eq_getElem hc, Array.getElem?_eq_getElem hF]
    simp only [Option.map_some, id]
    rw [if_pos ⟨Nat.zero_le _, by omega⟩, Nat.sub_zero, getElem!_pos (flatK enc k d) _ hF]
  · rw [if_neg ht, List.getElem?_eq_none]
    rw [flat_length hk]
    simpa using Nat.le_of_not_lt ht

/-- The cells of a row that the call owns, as the sort asks for them. -/
theorem Owns.holds {base : Nat} {e : TypeId} {w : World} {g cap : Nat} {l : List α} (hk : ∀ x, (enc x).length = k) (h : Owns base e enc k w (.slice (some ⟨g, 0, none⟩) l.length cap) l) : HoldsK enc k w g 0 l.toArray := by
  rcases h.2 with ⟨h0, _⟩ | ⟨g', cap', cur, hv, _, hg, _, _, _, htake⟩
  · cases h0
  · cases hv
    intro j hj
    have hj' : j < l.toArray.size * k := by simpa using hj
    have e1 := flatK_get hk l.toArray j hj'
    have hF : j < (flatK enc k l.toArray).size := by simpa using hj
    refine ⟨?_, ?_⟩
    · rw [getElem!_pos (flatK enc k l.toArray) _ hF, Nat.zero_add]
      rw [Array.getElem?_eq_getElem hF] at e1
      have e2 : cur[j]? = some (flatK enc k l.toArray)[j] := by
        have h3 : l.toArray.toList.flatMap enc = cur.toList.take (l.length * k) := htake.symm
        rw [e1, h3, List.getElem?_take, if_pos (by simpa using hj'), Array.getElem?_toList]
      unfold World.cell?
      simp only [hg]
      exact e2
    · simp [World.frozen?, hg]

/-- slices.SortFunc at a row of structs that the call owns. f: the number of slices.SortFunc; g: the comparison's, which captures cb. -/
theorem sort_owns {P : Program} {ρ : Ren} (L : SlLaysF0.n6 P ρ) (k : Nat) (aE : ∀ w, (isAgg (ρ.t 24)).run P w = .ok true w) (zE : ∀ w, (Go.sizeOf (ρ.t 24)).run P w = .ok k w) (enc : α → List Value) (hk : ∀ x, (enc x).length = k) (h1 : ∀ x, ∀ v ∈ enc x, v.oneCell' = true) (cf : α → α → Int) (hO : SWO (ltOf cf))
    (hT : ∀ x y, (ltOf cf) x y = false → (ltOf cf) y x = false → x = y) (g : Nat) (cb : Array Value) (eg : ∀ args w, (callFunc g args).run P w = .ok (.enter g args) w) (w : World) (base : Nat) (e : TypeId) (v : Value) (l : List α) (hown : Owns base e enc k w v l) (hl : l.length ≤ 1000000)
    (hcmp : ∀ W, Keeps (fun i => v.ownBlock = some i) w W → ∀ x y : α, Calls P g (#[.agg (enc x).toArray, .agg (enc y).toArray] ++ cb) W fun e w' => e = .returned (.int .i64 (cf x y)) ∧ Ext W w') :
    Calls P (ρ.f 6) #[v, .func (.func g) #[] cb] w fun e' w' => e' = .returned (.tuple #[]) ∧ Owns base e enc k w' v (l.mergeSort fun x y => !(ltOf cf) y x) ∧ Keeps (fun i => v.ownBlock = some i) w w' := by
  rcases hown.2 with ⟨hv, h0⟩ | ⟨gb, cap, cur, hv, hb0, hg, hcap, hmax, hsz, htake⟩
  · subst hv
    have : l = [] := List.eq_nil_of_length_eq_zero h0
    subst this
    refine (AnyF.slices_SortFunc_none (P := P) (ρ := ρ) L none 0 _ w).mono ?_
    rintro e' w' ⟨rfl, rfl⟩
    exact ⟨rfl, by simpa using hown, Keeps.refl _ _⟩
  · subst hv
    have hlt : gb < w.heap.size := (Array.getElem?_eq_some_iff.1 hg).1
    have hc : CmpLays P g cb enc k cf gb 0 l.toArray.size w := by
      intro m os dk hdk x y
      have hK : Keeps (fun i => Value.ownBlock (.slice (some ⟨gb, 0, none⟩) l.length cap) = some i) w (sortWorldK enc k w gb 0 m dk os) :=
        (sorted_keeps (g := gb)).mono (fun i _ hi => by subst hi; rfl)
      exact (hcmp _ hK x y).mono fun _ _ ⟨he, hw⟩ => ⟨he, hw⟩
    have h := AnyQ.slices_SortFunc_total (P := P) (ρ := ρ) L k aE zE enc hk h1 cf hO g cb gb 0 cap l.toArray w eg hc (Owns.holds hk hown) hlt (by simp; omega) hT
    simp only [List.size_toArray] at h
    refine h.mono ?_
    rintro e' w' ⟨rfl, n, os, rfl⟩
    have hlen : (l.mergeSort fun x y => !(ltOf cf) y x).length = l.length := List.length_mergeSort _
    refine ⟨rfl, ⟨by rw [flat_length hk], .inr ⟨gb, cap, _, by rw [hlen], hb0, sorted_same hg, by rw [hlen]; exact hcap, hmax, ?_, ?_⟩⟩, (sorted_keeps (g := gb)).mono (fun i _ hi => by subst hi; rfl)⟩
    · simpa [putCells] using hsz
    · have := take_putK hk (l.mergeSort fun x y => !(ltOf cf) y x).toArray cur (by rw [hsz]; simp only [List.size_toArray, hlen]; exact Nat.mul_le_mul_right _ hcap)
      simpa using this
end
end Go.Proofs.Ytlepfohhfngndaa
