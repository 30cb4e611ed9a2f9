/- Slices whose elements are encodings of Lean values: reading, indexing, cutting, appending. -/
import Derived.Test.YtopabknlgmihpaaWalk
namespace Go.Proofs.Ytopabknlgmihpaa
open Go Go.RowKit
section
variable {α : Type} {enc : α → List Value} {k : Nat} {w w' : World} {a : Option Addr} {g off : Nat} {l : List α} {v : Value}

/-- From block g, place off on, the elements l lie, k cells each. -/
def RdAt (enc : α → List Value) (k : Nat) (w : World) (g off : Nat) (l : List α) : Prop :=
  ∀ i x, l[i]? = some x → ∀ j y, (enc x)[j]? = some y → w.cell? ⟨g, off + i * k + j, none⟩ = some y

/-- A slice value of length n and address a, whose elements are l. -/
structure RdS (enc : α → List Value) (k : Nat) (w : World) (a : Option Addr) (g off : Nat) (l : List α) : Prop where
  some : l ≠ [] → a = some ⟨g, off, none⟩
  lt : l ≠ [] → g < w.heap.size
  cells : RdAt enc k w g off l

/-- The value v is a slice whose elements are l. -/
def Rd (enc : α → List Value) (k : Nat) (w : World) (v : Value) (l : List α) : Prop :=
  ∃ a g off cap, v = .slice a l.length cap ∧ l.length ≤ cap ∧ RdS enc k w a g off l ∧ (a = none → cap = 0)

theorem RdAt.same (h : RdAt enc k w g off l) (hb : w'.heap[g]? = w.heap[g]?) : RdAt enc k w' g off l :=
  fun i x hx j y hy => (World.cell?_of_block (w := w) (a := ⟨g, off + i * k + j, none⟩) hb).trans (h i x hx j y hy)
theorem RdAt.nil : RdAt enc k w g off ([] : List α) := fun i x hx => by simp at hx
theorem RdS.same (h : RdS enc k w a g off l) (hs : w.heap.size ≤ w'.heap.size) (hb : l ≠ [] → w'.heap[g]? = w.heap[g]?) : RdS enc k w' a g off l := by
  refine ⟨h.some, fun hl => Nat.lt_of_lt_of_le (h.lt hl) hs, ?_⟩
  by_cases hl : l = []
  · subst hl; exact RdAt.nil
  · exact h.cells.same (hb hl)
theorem RdS.below (h : RdS enc k w a g off l) (hb : Below w.heap.size w w') : RdS enc k w' a g off l :=
  h.same hb.size (fun hl => hb.block g (h.lt hl))
theorem RdS.keeps {S : Nat → Prop} (h : RdS enc k w a g off l) (hb : Keeps S w w') (hS : l ≠ [] → ¬ S g) : RdS enc k w' a g off l :=
  h.same hb.size (fun hl => hb.block g (h.lt hl) (hS hl))
theorem Rd.below (h : Rd enc k w v l) (hb : Below w.heap.size w w') : Rd enc k w' v l := by
  obtain ⟨a, g, off, cap, hv, hc, hr, hn⟩ := h
  exact ⟨a, g, off, cap, hv, hc, hr.below hb, hn⟩
theorem Rd.ext (h : Rd enc k w v l) (hb : Ext w w') : Rd enc k w' v l := h.below hb.below
theorem Rd.keeps {S : Nat → Prop} (h : Rd enc k w v l) (hb : Keeps S w w') (hS : ∀ g, v.ownBlock = some g → ¬ S g) : Rd enc k w' v l := by
  obtain ⟨a, g, off, cap, hv, hc, hr, hn⟩ := h
  refine ⟨a, g, off, cap, hv, hc, hr.keeps hb (fun hl => hS g ?_), hn⟩
  rw [hv, hr.some hl]
  rfl
theorem Rd.nil : Rd enc k w (.slice none 0 0) ([] : List α) := ⟨none, 0, 0, 0, rfl, Nat.le_refl _, ⟨fun h => absurd rfl h, fun h => absurd rfl h, RdAt.nil⟩, fun _ => rfl⟩

theorem add_lit (g off n : Nat) : (⟨g, off, none⟩ : Addr).add n = ⟨g, off + n, none⟩ := by
  unfold Addr.add
  split
  · rename_i h; subst h; rfl
  · rfl

/-- x[i]: its address. -/
theorem RdS.index {P : Program} (h : RdS enc k w a g off l) {t e : TypeId} (ht : P.underlying t = .some (.slice e)) (he : ∀ W, (sizeOf e).run P W = .ok k W) {i : Nat} (hi : i < l.length) (cap : Nat) (W : World) :
    (Instr.indexAt t (.slice a l.length cap) (.int .i64 i)).run P W = .ok (.pointer (.some ⟨g, off + i * k, none⟩)) W := by
  have hne : l ≠ [] := by intro e0; subst e0; simp at hi
  rw [h.some hne]
  simp [Instr.indexAt, run_underlying ht, he, asIntOf, add_lit, hi]
theorem RdAt.cell (h : RdAt enc k w g off l) {i : Nat} {x : α} (hx : l[i]? = some x) {j : Nat} {y : Value} (hy : (enc x)[j]? = some y) : w.cell? ⟨g, off + i * k + j, none⟩ = some y := h i x hx j y hy

/-- Cutting from the front. -/
theorem RdS.drop {P : Program} (h : RdS enc k w a g off l) {t e : TypeId} (ht : P.underlying t = .some (.slice e)) (he : ∀ W, (sizeOf e).run P W = .ok k W) {n : Nat} (hn : n ≤ l.length) {cap : Nat} (hc : l.length ≤ cap) (hnil : a = none → cap = 0) :
    ∃ v, (∀ W, (Instr.slice t (.slice a l.length cap) (.some (.int .i64 n)) none none).run P W = .ok v W) ∧ (∀ W, (Instr.sliceAt t (.slice a l.length cap) (.some (.int .i64 n)) none none).run P W = .ok v W) ∧ Rd enc k w v (l.drop n) ∧ ∀ b, v.ownBlock = Option.some b → Value.ownBlock (.slice a l.length cap) = Option.some b := by
  have hs : ∀ W, (Instr.slice t (.slice a l.length cap) (.some (.int .i64 n)) none none).run P W = .ok (.slice (if cap = n then a else a.map (·.add (n * k))) (l.length - n) (cap - n)) W := fun W => by
    simp [Instr.slice, run_underlying ht, he, Instr.sliceBounds, Instr.sliceBound, asIntOf, hn]
  refine ⟨_, hs, fun W => ?_, ?_, ?_⟩
  · unfold Instr.sliceAt
    rw [Sem.run_bind, run_underlying ht]
    exact hs W
  · by_cases hl : l.drop n = []
    · refine ⟨if cap = n then a else a.map (·.add (n * k)), g, off + n * k, cap - n, by simp, by simp; omega, ⟨fun h0 => absurd hl h0, fun h0 => absurd hl h0, by rw [hl]; exact RdAt.nil⟩, fun h0 => ?_⟩
      split at h0
      · omega
      · have : a = none := by cases a <;> simp_all
        have := hnil this
        omega
    · have hlt : n < l.length := by
        rcases Nat.lt_or_ge n l.length with h1 | h1
        · exact h1
        · exact absurd (List.drop_eq_nil_of_le h1) hl
      have hne : l ≠ [] := by intro e0; subst e0; simp at hlt
      have ha := h.some hne
      subst ha
      refine ⟨.some ⟨g, off + n * k, none⟩, g, off + n * k, cap - n, ?_, by simp; omega, ⟨fun _ => rfl, fun _ => h.lt hne, ?_⟩, fun h0 => by cases h0⟩
      · rw [if_neg (by omega)]
        simp [add_lit]
      · intro i x hx j y hy
        rw [List.getElem?_drop] at hx
        have := h.cells (n + i) x hx j y hy
        rw [show off + n * k + i * k + j = off + (n + i) * k + j by rw [Nat.add_mul]; omega]
        exact this
  · intro b hb
    rcases a with _ | ad
    · split at hb <;> simp [Value.ownBlock] at hb
    ·
      split at hb
      · exact hb
      · simp only [Option.map_some, Value.ownBlock] at hb ⊢
        rw [← hb]
        unfold Addr.add
        split <;> rfl

theorem flat_get {enc : α → List Value} {k : Nat} (hk : ∀ x, (enc x).length = k) : ∀ (l : List α) (i : Nat) (x : α), l[i]? = some x → ∀ (j : Nat) (y : Value), (enc x)[j]? = some y → (l.flatMap enc)[i * k + j]? = some y
  | [], i, x, h, _, _, _ => by simp at h
  | a :: r, 0, x, h, j, y, hy => by
    simp only [List.getElem?_cons_zero, Option.some.injEq] at h
    subst h
    have hj : j < (enc a).length := (List.getElem?_eq_some_iff.1 hy).1
    rw [List.flatMap_cons, Nat.zero_mul, Nat.zero_add, List.getElem?_append_left hj]
    exact hy
  | a :: r, i + 1, x, h, j, y, hy => by
    simp only [List.getElem?_cons_succ] at h
    rw [List.flatMap_cons, List.getElem?_append_right (by rw [hk, Nat.add_mul]; omega), hk, show (i + 1) * k + j - k = i * k + j by rw [Nat.add_mul]; omega]
    exact flat_get hk r i x h j y hy
theorem flat_length {enc : α → List Value} {k : Nat} (hk : ∀ x, (enc x).length = k) (l : List α) : (l.flatMap enc).length = l.length * k := by
  induction l with
  | nil => simp
  | cons a r ih => rw [List.flatMap_cons, List.length_append, ih, hk, List.length_cons, Nat.add_mul]; omega

/-- A row that the call owns reads as its elements. -/
theorem Rd.of_owns {base : Nat} {e : TypeId} (hk : ∀ x, (enc x).length = k) (h : w.ownsRow base e k v l.length (l.flatMap enc)) : Rd enc k w v l := by
  rcases h.2 with ⟨rfl, h0⟩ | ⟨g, cap, cur, rfl, _, hg, hcap, _, _, htake⟩
  · have : l = [] := List.eq_nil_of_length_eq_zero h0
    subst this
    exact Rd.nil
  · refine ⟨some ⟨g, 0, none⟩, g, 0, cap, rfl, hcap, ⟨fun _ => rfl, fun _ => (Array.getElem?_eq_some_iff.1 hg).1, fun i x hx j y hy => ?_⟩, fun h0 => by cases h0⟩
    have h1 := flat_get hk l i x hx j y hy
    have h2 : (l.flatMap enc)[i * k + j]? = cur.toList[i * k + j]? := by
      rw [← htake, List.getElem?_take]
      rw [if_pos]
      have h3 := (List.getElem?_eq_some_iff.1 h1).1
      rw [flat_length hk] at h3
      exact h3
    rw [h2] at h1
    simp only [World.cell?, hg, Nat.zero_add]
    simpa using h1
theorem cells_new (w : World) (xs : List Value) (T : TypeId) : ∀ j u, xs[j]? = some u → (w.alloc (.cells xs.toArray T)).cell? ((⟨w.heap.size, 0, none⟩ : Addr).add j) = some u := by
  intro j u h
  rw [add_lit]
  unfold World.cell?
  have := heap_alloc_new w (.cells xs.toArray T)
  simp only [Nat.zero_add] at *
  rw [this]
  simpa using h
theorem cells_newN {w : World} {n : Nat} (hn : w.heap.size = n) (xs : List Value) (T : TypeId) : ∀ j u, xs[j]? = some u → (w.alloc (.cells xs.toArray T)).cell? ((⟨n, 0, none⟩ : Addr).add j) = some u := by
  subst hn
  exact cells_new w xs T
theorem owns_block {base : Nat} {e : TypeId} {n : Nat} {xs : List Value} (h : w.ownsRow base e k v n xs) : ∀ g, v.ownBlock = some g → base ≤ g := fun g hg => (h.lt g hg).1

/-- What is asked of a slice's type t, its elements of type e in k cells. -/
structure ElemT (P : Program) (t e : TypeId) (enc : α → List Value) (k bytes : Nat) : Prop where
  under : P.underlying t = some (.slice e)
  info : ∃ i z, P.info? e = some i ∧ i.zero = some z ∧ i.size = k ∧ i.bytes = bytes ∧ z.cells.size = k
  len : ∀ x, (enc x).length = k
  pos : 0 < k
  one : ∀ x, ∀ u ∈ enc x, u.oneCell' = true
  small : bytes ≤ 1000

/-- Block by block: the row that the call owns, of typed elements. -/
def Owns (base : Nat) (e : TypeId) (enc : α → List Value) (k : Nat) (w : World) (v : Value) (l : List α) : Prop := w.ownsRow base e k v l.length (l.flatMap enc)
theorem Owns.nil (base : Nat) (e : TypeId) (enc : α → List Value) (k : Nat) (w : World) : Owns base e enc k w (.slice none 0 0) [] := World.ownsRow_nil _ _ _ _
theorem Owns.drewN {base : Nat} {e : TypeId} (h : Owns base e enc k w v l) (n : Nat) : Owns base e enc k (w.drewN n) v l := h
theorem Owns.drew {base : Nat} {e : TypeId} (h : Owns base e enc k w v l) : Owns base e enc k w.drew v l := h
theorem Owns.alloc {base : Nat} {e : TypeId} (h : Owns base e enc k w v l) (o : Obj) : Owns base e enc k (w.alloc o) v l := World.ownsRow.alloc h o
theorem Owns.same {base : Nat} {e : TypeId} (h : Owns base e enc k w v l) (hb : ∀ g, v.ownBlock = some g → w'.heap[g]? = w.heap[g]?) : Owns base e enc k w' v l := by
  refine ⟨h.1, ?_⟩
  rcases h.2 with h0 | ⟨g, cap, cur, hv, hb0, hg, hr⟩
  · exact .inl h0
  · exact .inr ⟨g, cap, cur, hv, hb0, (hb g (by rw [hv]; rfl)).trans hg, hr⟩
theorem Owns.lt {base : Nat} {e : TypeId} (h : Owns base e enc k w v l) : ∀ g, v.ownBlock = some g → base ≤ g ∧ g < w.heap.size := World.ownsRow.lt h
theorem Owns.below {base : Nat} {e : TypeId} (h : Owns base e enc k w v l) (hb : Below w.heap.size w w') : Owns base e enc k w' v l := h.same fun g hg => hb.block g (h.lt g hg).2
theorem Owns.ext {base : Nat} {e : TypeId} (h : Owns base e enc k w v l) (hb : Ext w w') : Owns base e enc k w' v l := h.below hb.below
theorem Owns.mono {base base' : Nat} {e : TypeId} (h : Owns base e enc k w v l) (hb : base' ≤ base) : Owns base' e enc k w v l := by
  refine ⟨h.1, ?_⟩
  rcases h.2 with h0 | ⟨g, cap, cur, hv, hb0, hr⟩
  · exact .inl h0
  · exact .inr ⟨g, cap, cur, hv, Nat.le_trans hb hb0, hr⟩
theorem Owns.rd {base : Nat} {e : TypeId} (hk : ∀ x, (enc x).length = k) (h : Owns base e enc k w v l) : Rd enc k w v l := Rd.of_owns hk h

theorem Owns.push {base : Nat} {e : TypeId} {w0 w2 w1 : World} (hown : Owns base e enc k w2 v l) (hb : Below base w0 w2) (hg : w2.grownBy w1 v.ownBlock) (hB : base ≤ w2.heap.size) : Below base w0 w1 :=
  hb.grown hg hB (fun g hg' => (hown.lt g hg').1)
theorem Owns.pushB {base B : Nat} {e : TypeId} {w0 w2 w1 : World} (hown : Owns base e enc k w2 v l) (hb : Below B w0 w2) (hg : w2.grownBy w1 v.ownBlock) (hB : B ≤ w2.heap.size) (hBb : B ≤ base) : Below B w0 w1 :=
  hb.grown hg hB (fun g hg' => Nat.le_trans hBb (hown.lt g hg').1)
theorem Owns.fresh {base : Nat} {e : TypeId} (h : Owns base e enc k w v l) : ∀ g, v.ownBlock = some g → base ≤ g := fun g hg => (h.lt g hg).1

/-- append(s, y), s a row that the call owns. -/
theorem wpList_push {P : Program} {ops : Array Oper} {rest : List Oper} {o : Oper} {act : Act} {Q : Exit → Act → World → Prop} {t e : TypeId} {bytes : Nat} (T : ElemT P t e enc k bytes) (hgd : o.guard = none) (s x : Operand)
    (ho : o.op = .call { callee := .builtin .append, args := #[s, x], argTypes := #[t, t] }) (base : Nat) (v : Value) (l : List α) (hs : act.eval s = v) (hown : Owns base e enc k w v l)
    (g c : Nat) (y : α) (hx : act.eval x = .slice (some ⟨g, 0, none⟩) 1 c) (hnew : ∀ j u, (enc y)[j]? = some u → w.cell? ((⟨g, 0, none⟩ : Addr).add j) = some u)
    (hlen : l.length ≤ 100000) (hbase : base ≤ w.heap.size)
    (h : ∀ v' w', Owns base e enc k w' v' (l ++ [y]) → w.grownBy w' v.ownBlock → wpList P ops Q rest (act.put o.dst v') w') : wpList P ops Q (o :: rest) act w := by
  obtain ⟨i, z, hi, hz, hsz, hby, hzs⟩ := T.info
  refine wpList_append_own w hgd s x t ho base e i z k bytes T.under hi hz hsz hby hzs T.pos v l.length _ hs hown ⟨g, 0, none⟩ 1 c (enc y) hx (by rw [T.len]; omega) hnew (T.one y) (by unfold maxLen; omega) ?_ hbase ?_
  · have h1 := T.small
    have : (l.length + 1) * bytes ≤ 100001 * 1000 := Nat.mul_le_mul (by omega) h1
    omega
  · intro v' w' h1 h2 _
    refine h v' w' ?_ h2
    unfold Owns
    rw [List.length_append, List.flatMap_append]
    simpa using h1
end
end Go.Proofs.Ytopabknlgmihpaa
