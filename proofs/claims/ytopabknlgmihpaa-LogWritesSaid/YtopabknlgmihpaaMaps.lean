/- The laws of a map whose keys and values are encodings of Lean values: look up, store, delete, length, range. -/
import Derived.Maps.RangeWalk
import Derived.Maps.Ext
import Derived.WalkKit
namespace Go.Proofs.Ytopabknlgmihpaa
open Go Go.RowKit Go.MapKept Go.ChangeMaps Go.Maps
section
variable {κ β : Type}

section
variable [DecidableEq κ]
def aget (l : List (κ × β)) (x : κ) : Option β := (l.find? (fun p => decide (p.1 = x))).map (·.2)
def ahas (l : List (κ × β)) (x : κ) : Bool := l.any (fun p => decide (p.1 = x))
def aput (l : List (κ × β)) (x : κ) (v : β) : List (κ × β) :=
  if ahas l x then l.map (fun p => if p.1 = x then (x, v) else p) else l ++ [(x, v)]
def adel (l : List (κ × β)) (x : κ) : List (κ × β) := l.filter (fun p => decide (p.1 ≠ x))
end

/-- Block b is a map that holds just the entries l, no key twice. -/
def MapIs (ek : κ → Value) (ev : β → Value) (w : World) (b : Nat) (l : List (κ × β)) : Prop :=
  ∃ es clock, w.heap[b]? = some (.map es clock) ∧ Stamped es clock ∧ es.toList.map (fun e => (e.key, e.val)) = l.map (fun p => (ek p.1, ev p.2))

/-- What is asked of a key's type. -/
structure KeyT (P : Program) (k : TypeId) (ek : κ → Value) : Prop where
  K : Keyed P k
  lit : ∀ x, ∃ l, keyOf P k (ek x) = some l
  inj : ∀ x y, ek x = ek y → x = y

variable {P : Program} {k : TypeId} {ek : κ → Value} {ev : β → Value} {w : World} {b : Nat} {l : List (κ × β)}

theorem MapIs.made (w : World) (ek : κ → Value) (ev : β → Value) : MapIs ek ev (w.alloc (.map #[] 0)) w.heap.size [] :=
  ⟨#[], 0, (MapKept.heap_alloc w _).1, stamped_empty 0, rfl⟩

theorem MapIs.lt (h : MapIs ek ev w b l) : b < w.heap.size := by
  obtain ⟨es, clock, hb, _⟩ := h
  exact (Array.getElem?_eq_some_iff.1 hb).1

theorem MapIs.same {w' : World} (h : MapIs ek ev w b l) (hb : w'.heap[b]? = w.heap[b]?) : MapIs ek ev w' b l := by
  obtain ⟨es, clock, h1, h2⟩ := h
  exact ⟨es, clock, hb.trans h1, h2⟩

theorem MapIs.pair {es : Array MapEntry} (h : es.toList.map (fun e => (e.key, e.val)) = l.map (fun p => (ek p.1, ev p.2))) (j : Nat) :
    (es.toList[j]?).map (fun e => (e.key, e.val)) = (l[j]?).map (fun p => (ek p.1, ev p.2)) := by
  rw [← List.getElem?_map, ← List.getElem?_map, h]

theorem MapIs.keys (T : KeyT P k ek) {es : Array MapEntry} (h : es.toList.map (fun e => (e.key, e.val)) = l.map (fun p => (ek p.1, ev p.2))) :
    ∀ e ∈ es.toList, ∃ lt, keyOf P k e.key = some lt := by
  intro e he
  have : (e.key, e.val) ∈ l.map (fun p => (ek p.1, ev p.2)) := h ▸ List.mem_map.2 ⟨e, he, rfl⟩
  obtain ⟨p, _, hp⟩ := List.mem_map.1 this
  have h1 : ek p.1 = e.key := congrArg Prod.fst hp
  rw [← h1]
  exact T.lit p.1

theorem MapIs.len_eq {es : Array MapEntry} (h : es.toList.map (fun e => (e.key, e.val)) = l.map (fun p => (ek p.1, ev p.2))) : es.size = l.length := by
  have := congrArg List.length h
  simpa using this

theorem MapIs.nodup (h : MapIs ek ev w b l) : l.Pairwise (fun p q => p.1 ≠ q.1) := by
  obtain ⟨es, clock, _, hs, he⟩ := h
  have h1 := ((stamped_iff es clock).1 hs).2.2
  have h2 : (es.toList.map (fun e => (e.key, e.val))).Pairwise (fun p q => p.1 ≠ q.1) := List.pairwise_map.2 h1
  rw [he, List.pairwise_map] at h2
  exact h2.imp fun hne e => hne (by rw [e])

section
variable [DecidableEq κ]
theorem aget_none {l : List (κ × β)} {x : κ} (h : ∀ p ∈ l, p.1 ≠ x) : aget l x = none := by
  unfold aget
  rw [List.find?_eq_none.2 (fun p hp => by simpa using h p hp)]
  rfl
theorem ahas_none {l : List (κ × β)} {x : κ} (h : ∀ p ∈ l, p.1 ≠ x) : ahas l x = false := by
  unfold ahas
  rw [List.any_eq_false]
  exact fun p hp => by simpa using h p hp
theorem aget_some : ∀ {l : List (κ × β)}, l.Pairwise (fun p q => p.1 ≠ q.1) → ∀ {p : κ × β}, p ∈ l → aget l p.1 = some p.2
  | [], _, _, h => by simp at h
  | a :: r, hp, p, h => by
    obtain ⟨h1, h2⟩ := List.pairwise_cons.1 hp
    unfold aget
    rw [List.find?_cons]
    rcases List.mem_cons.1 h with rfl | h'
    · simp
    · have hne : a.1 ≠ p.1 := h1 p h'
      simp only [hne, decide_false]
      exact aget_some h2 h'
theorem ahas_iff {l : List (κ × β)} {x : κ} : ahas l x = true ↔ ∃ p ∈ l, p.1 = x := by
  unfold ahas
  simp [List.any_eq_true]
theorem ahas_eq (l : List (κ × β)) (x : κ) : ahas l x = (aget l x).isSome := by
  unfold ahas aget
  rw [Option.isSome_map]
  induction l with
  | nil => rfl
  | cons a r ih =>
    rw [List.any_cons, List.find?_cons]
    by_cases h : a.1 = x <;> simp [h, ih]

end

/-- Which entry a key has. -/
theorem MapIs.findKey (T : KeyT P k ek) {es : Array MapEntry} {clock : Nat} (hs : Stamped es clock) (h : es.toList.map (fun e => (e.key, e.val)) = l.map (fun p => (ek p.1, ev p.2))) (x : κ) (w : World) :
    ((Instr.findKey k (ek x) es.toList).run P w = .ok none w ∧ (∀ e ∈ es.toList, e.key ≠ ek x) ∧ ∀ p ∈ l, p.1 ≠ x) ∨
    ∃ j e v, (Instr.findKey k (ek x) es.toList).run P w = .ok (some (j, ev v)) w ∧ es.toList[j]? = some e ∧ e.key = ek x ∧ e.val = ev v ∧ l[j]? = some (x, v) := by
  obtain ⟨kl, hkl⟩ := T.lit x
  rcases T.K.find w hkl es.toList (MapIs.keys T h) with ⟨h1, h2⟩ | ⟨j, e, h1, h2, h3⟩
  · refine Or.inl ⟨h1, h2, fun p hp e0 => ?_⟩
    have : (ek p.1, ev p.2) ∈ es.toList.map (fun e => (e.key, e.val)) := h ▸ List.mem_map.2 ⟨p, hp, rfl⟩
    obtain ⟨e, he, hpe⟩ := List.mem_map.1 this
    exact h2 e he (by rw [← e0]; exact congrArg Prod.fst hpe)
  · have hp := MapIs.pair h j
    rw [h2] at hp
    cases hl : l[j]? with
    | none => rw [hl] at hp; cases hp
    | some p =>
      rw [hl] at hp
      simp only [Option.map_some, Option.some.injEq, Prod.mk.injEq] at hp
      have hx : p.1 = x := T.inj _ _ (by rw [← hp.1, h3])
      refine Or.inr ⟨j, e, p.2, by rw [h1, hp.2], h2, h3, hp.2, by rw [hl, ← hx]⟩

section
variable [DecidableEq κ]
/-- m[x], m[x] with ok. -/
theorem MapIs.lookup (T : KeyT P k ek) (h : MapIs ek ev w b l) {t e : TypeId} (ht : P.underlying t = some (.map k e)) {z : Value} (hz : (zeroValue e).run P w = .ok z w) (x : κ) (c : Bool) :
    (Instr.lookup t (.map (some b)) (ek x) c).run P w = .ok (if c then .tuple #[((aget l x).map ev).getD z, .bool (ahas l x)] else ((aget l x).map ev).getD z) w := by
  have hn := h.nodup
  obtain ⟨es, clock, hb, hs, he⟩ := h
  obtain ⟨kl, hkl⟩ := T.lit x
  rcases MapIs.findKey T hs he x w with ⟨h1, _, h3⟩ | ⟨j, e0, v, h1, h2, h3, h4, h5⟩
  · rw [aget_none h3, ahas_none h3]
    simp [Instr.lookup, run_underlying ht, MapKept.run_getObj_map hb, T.K.check w _ hkl, h1, hz, Result.andThen]
  · have hm : (x, v) ∈ l := List.mem_of_getElem? h5
    have hg := aget_some hn hm
    have hh : ahas l x = true := ahas_iff.2 ⟨_, hm, rfl⟩
    simp only at hg
    rw [hg, hh]
    simp [Instr.lookup, run_underlying ht, MapKept.run_getObj_map hb, T.K.check w _ hkl, h1, Result.andThen]

theorem map_put_at {l : List (κ × β)} (hn : l.Pairwise (fun p q => p.1 ≠ q.1)) {x : κ} {v : β} : ∀ {j : Nat} {v0 : β}, l[j]? = some (x, v0) → l.map (fun p => if p.1 = x then (x, v) else p) = l.set j (x, v) := by
  induction l with
  | nil => intro j v0 h; simp at h
  | cons a r ih =>
    intro j v0 h
    obtain ⟨h1, h2⟩ := List.pairwise_cons.1 hn
    cases j with
    | zero =>
      simp only [List.getElem?_cons_zero, Option.some.injEq] at h
      subst h
      simp only [List.map_cons, if_true, List.set_cons_zero, List.cons.injEq, true_and]
      rw [List.map_congr_left (g := id)]
      · simp
      · intro q hq
        have := h1 q hq
        simp only at this
        rw [if_neg (fun e => this e.symm)]; rfl
    | succ j =>
      simp only [List.getElem?_cons_succ] at h
      have hm := List.mem_of_getElem? h
      have := h1 _ hm
      simp only at this
      simp only [List.map_cons, List.set_cons_succ, List.cons.injEq]
      exact ⟨by rw [if_neg this], ih h2 h⟩

theorem filter_at {l : List (κ × β)} (hn : l.Pairwise (fun p q => p.1 ≠ q.1)) {x : κ} : ∀ {j : Nat} {v0 : β}, l[j]? = some (x, v0) → l.filter (fun p => decide (p.1 ≠ x)) = l.eraseIdx j := by
  induction l with
  | nil => intro j v0 h; simp at h
  | cons a r ih =>
    intro j v0 h
    obtain ⟨h1, h2⟩ := List.pairwise_cons.1 hn
    cases j with
    | zero =>
      simp only [List.getElem?_cons_zero, Option.some.injEq] at h
      subst h
      rw [List.filter_cons_of_neg (by simp)]
      simp only [List.eraseIdx_cons_zero]
      exact List.filter_eq_self.2 fun q hq => by have := h1 q hq; simp only at this; simpa using fun e => this e.symm
    | succ j =>
      simp only [List.getElem?_cons_succ] at h
      have hm := List.mem_of_getElem? h
      have := h1 _ hm
      simp only at this
      rw [List.filter_cons_of_pos (by simpa using this)]
      simp only [List.eraseIdx_cons_succ, List.cons.injEq, true_and]
      exact ih h2 h

/-- m[x] = v. -/
theorem MapIs.update (T : KeyT P k ek) (h : MapIs ek ev w b l) {t e : TypeId} (ht : P.underlying t = some (.map k e)) (x : κ) (v : β) :
    ∃ es' clock', (Instr.mapUpdate t (.map (some b)) (ek x) (ev v)).run P w = .ok () (setBlock w b (.map es' clock')) ∧ MapIs ek ev (setBlock w b (.map es' clock')) b (aput l x v) := by
  have hn := h.nodup
  obtain ⟨es, clock, hb, hs, he⟩ := h
  obtain ⟨kl, hkl⟩ := T.lit x
  rcases MapIs.findKey T hs he x w with ⟨h1, h2, h3⟩ | ⟨j, e0, v0, h1, h2, h3, h4, h5⟩
  · refine ⟨es.push ⟨ek x, ev v, clock⟩, clock + 1, ?_, es.push ⟨ek x, ev v, clock⟩, clock + 1, heap_setBlock_same hb _, stamped_push hs h2, ?_⟩
    · simp [Instr.mapUpdate, run_underlying ht, MapKept.run_getObj_map hb, T.K.check w false hkl, h1, MapKept.run_setObj_map _ hb, Result.andThen, setBlock]
    · unfold aput
      rw [ahas_none h3]
      simp [he]
  · have hj : es[j]? = some e0 := by simpa using h2
    refine ⟨es.modify j (fun e' => { e' with key := ek x, val := ev v }), clock, ?_, es.modify j (fun e' => { e' with key := ek x, val := ev v }), clock, heap_setBlock_same hb _, stamped_modify hs _ _ (fun _ _ => rfl) (fun e' _ he' => ?_), ?_⟩
    · simp [Instr.mapUpdate, run_underlying ht, MapKept.run_getObj_map hb, T.K.check w false hkl, h1, hj, h3, T.K.stays w hkl, MapKept.run_setObj_map _ hb, Result.andThen, setBlock]
    · rw [hj] at he'; cases he'; exact h3.symm
    · have hm : (x, v0) ∈ l := List.mem_of_getElem? h5
      unfold aput
      rw [ahas_iff.2 ⟨_, hm, rfl⟩, if_pos rfl, map_put_at hn h5, Array.toList_modify, modify_eq_set _ _ _ _ h2, List.map_set, he, List.map_set]

/-- delete(m, x). -/
theorem MapIs.drop (T : KeyT P k ek) (h : MapIs ek ev w b l) {t e ty : TypeId} (ht : P.underlying t = some (.map k e)) (x : κ) :
    ∃ es' clock', (Builtin.delete_ #[t, k] ty #[.map (some b), ek x]).run P w = .ok (.tuple #[]) (setBlock w b (.map es' clock')) ∧ MapIs ek ev (setBlock w b (.map es' clock')) b (adel l x) := by
  have hn := h.nodup
  obtain ⟨es, clock, hb, hs, he⟩ := h
  obtain ⟨kl, hkl⟩ := T.lit x
  rcases MapIs.findKey T hs he x w with ⟨h1, h2, h3⟩ | ⟨j, e0, v0, h1, h2, h3, h4, h5⟩
  · refine ⟨es, clock, ?_, es, clock, heap_setBlock_same hb _, hs, ?_⟩
    · simp [Builtin.delete_, run_underlying ht, MapKept.run_getObj_map hb, T.K.check w _ hkl, h1, MapKept.run_setObj_map _ hb, Result.andThen, setBlock]
    · unfold adel
      rw [List.filter_eq_self.2 (fun p hp => by simpa using h3 p hp)]
      exact he
  · have hjl : j < es.toList.length := (List.getElem?_eq_some_iff.1 h2).1
    have hjs : j < es.size := by simpa using hjl
    have hsub : (es.eraseIdxIfInBounds j).toList = es.toList.eraseIdx j := by
      unfold Array.eraseIdxIfInBounds
      rw [dif_pos hjs]
      simp
    refine ⟨es.eraseIdxIfInBounds j, clock, ?_, es.eraseIdxIfInBounds j, clock, heap_setBlock_same hb _, stamped_erase hs j, ?_⟩
    · simp [Builtin.delete_, run_underlying ht, MapKept.run_getObj_map hb, T.K.check w _ hkl, h1, MapKept.run_setObj_map _ hb, Result.andThen, setBlock]
    · unfold adel
      rw [hsub, filter_at hn h5, map_eraseIdx, map_eraseIdx, he]

end

/-- len(m). -/
theorem MapIs.len (h : MapIs ek ev w b l) {t : TypeId} (ht : ∃ k e, P.underlying t = some (.map k e)) (ty : TypeId) :
    (Builtin.len_ #[t] ty #[.map (some b)]).run P w = .ok (.int .i64 l.length) w := by
  obtain ⟨k, e, ht⟩ := ht
  obtain ⟨es, clock, hb, hs, he⟩ := h
  have := MapIs.len_eq he
  simp [Builtin.len_, run_underlying ht, MapKept.run_getObj_map hb, Result.andThen, this, goInt]

/-- A range over a map under way: block b the map (entries l), block r the iterator; left: the entries still to come. -/
def Rng (ek : κ → Value) (ev : β → Value) (w : World) (b r : Nat) (l left : List (κ × β)) : Prop :=
  ∃ es clock since seen c0, w.heap[b]? = some (.map es clock) ∧ Stamped es clock ∧ es.toList.map (fun e => (e.key, e.val)) = l.map (fun p => (ek p.1, ev p.2)) ∧
    w.heap[r]? = some (.mapIter (some b) since seen c0) ∧ (∀ x ∈ es.toList, x.born < since) ∧ (leftOf es seen).toList.map (fun e => (e.key, e.val)) = left.map (fun p => (ek p.1, ev p.2)) ∧ since ≤ c0 ∧ since ≤ clock

theorem Rng.map {r : Nat} {left : List (κ × β)} (h : Rng ek ev w b r l left) : MapIs ek ev w b l := by
  obtain ⟨es, clock, _, _, _, hb, hs, he, _⟩ := h
  exact ⟨es, clock, hb, hs, he⟩
theorem Rng.lt {r : Nat} {left : List (κ × β)} (h : Rng ek ev w b r l left) : r < w.heap.size := by
  obtain ⟨es, clock, since, seen, c0, _, _, _, hr, _⟩ := h
  exact (Array.getElem?_eq_some_iff.1 hr).1
theorem Rng.ne {r : Nat} {left : List (κ × β)} (h : Rng ek ev w b r l left) : r ≠ b := by
  obtain ⟨es, clock, since, seen, c0, hb, _, _, hr, _⟩ := h
  intro e
  rw [e, hb] at hr
  cases hr
theorem Rng.same {w' : World} {r : Nat} {left : List (κ × β)} (h : Rng ek ev w b r l left) (hb : w'.heap[b]? = w.heap[b]?) (hr : w'.heap[r]? = w.heap[r]?) : Rng ek ev w' b r l left := by
  obtain ⟨es, clock, since, seen, c0, h1, h2, h3, h4, h5⟩ := h
  exact ⟨es, clock, since, seen, c0, hb.trans h1, h2, h3, hr.trans h4, h5⟩

/-- How many entries are still to come, read off the world. -/
def rngLeft (w : World) (b r : Nat) : Nat :=
  match w.heap[b]?, w.heap[r]? with
  | some (.map es _), some (.mapIter _ _ seen _) => (leftOf es seen).size
  | _, _ => 0
theorem Rng.left_eq {r : Nat} {left : List (κ × β)} (h : Rng ek ev w b r l left) : rngLeft w b r = left.length := by
  obtain ⟨es, clock, since, seen, c0, h1, h2, h3, h4, h5, h6, _⟩ := h
  simp only [rngLeft, h1, h4]
  have := congrArg List.length h6
  simpa using this

theorem MapIs.range (h : MapIs ek ev w b l) {t e : TypeId} (ht : P.underlying t = some (.map k e)) :
    ∃ o, (Instr.range t (.map (some b))).run P w = .ok (.pointer (some ⟨w.heap.size, 0, none⟩)) (w.alloc o) ∧ Rng ek ev (w.alloc o) b w.heap.size l l := by
  have hlt := h.lt
  obtain ⟨es, clock, hb, hs, he⟩ := h
  refine ⟨_, run_range_map w t k e b es clock ht hb, es, clock, clock, #[], clock, ((MapKept.heap_alloc w _).2 b hlt).trans hb, hs, he, (MapKept.heap_alloc w _).1, hs.1, ?_, Nat.le_refl _, Nat.le_refl _⟩
  rw [← he, show (leftOf es #[]).toList = es.toList by unfold leftOf; rw [Array.toList_filter]; exact List.filter_eq_self.2 (fun x _ => by simp)]

theorem left_push {es : Array MapEntry} {clock : Nat} (hs : Stamped es clock) {seen : Array Nat} {e : MapEntry} (he : e ∈ (leftOf es seen).toList) :
    ∃ a c, (leftOf es seen).toList = a ++ e :: c ∧ (leftOf es (seen.push e.born)).toList = a ++ c := by
  have hn : ((leftOf es seen).toList.map (·.born)).Nodup := by
    have h1 := ((stamped_iff es clock).1 hs).2.1
    unfold leftOf
    rw [Array.toList_filter]
    exact h1.sublist (List.Sublist.map _ List.filter_sublist)
  have h2 : (leftOf es (seen.push e.born)).toList = (leftOf es seen).toList.filter (fun x => !(x.born == e.born)) := by
    unfold leftOf
    rw [Array.toList_filter, Array.toList_filter, List.filter_filter]
    congr 1
    funext x
    rw [contains_push]
    cases seen.contains x.born <;> cases x.born == e.born <;> rfl
  obtain ⟨a, c, hac⟩ := List.append_of_mem he
  refine ⟨a, c, hac, ?_⟩
  rw [h2, hac]
  rw [hac] at hn
  simp only [List.map_append, List.map_cons, List.nodup_append, List.nodup_cons, List.mem_cons, List.mem_map] at hn
  obtain ⟨_, ⟨hc, _⟩, hd⟩ := hn
  rw [List.filter_append, List.filter_cons_of_neg (by simp)]
  congr 1
  · exact List.filter_eq_self.2 fun x hx => by
      have := hd x.born ⟨x, hx, rfl⟩ e.born (Or.inl rfl)
      simpa using this
  · exact List.filter_eq_self.2 fun x hx => by
      have : x.born ≠ e.born := fun e1 => hc ⟨x, hx, e1⟩
      simpa using this

/-- The step: nothing is left; or one of those that are left comes out. -/
theorem Rng.next {r : Nat} {left : List (κ × β)} (h : Rng ek ev w b r l left) :
    (left = [] ∧ ∀ ty, (Instr.next (.pointer (some ⟨r, 0, none⟩)) false ty).run P w = .ok (.tuple #[.bool false]) w) ∨
    ∃ a p c w', left = a ++ p :: c ∧ (∀ ty, (Instr.next (.pointer (some ⟨r, 0, none⟩)) false ty).run P w = .ok (.tuple #[.bool true, ek p.1, ev p.2]) w') ∧ Rng ek ev w' b r l (a ++ c) ∧
      (∃ w1 o, (w1 = w ∨ w1 = w.drew) ∧ w' = setBlock w1 r o) ∧
      (Instr.entry (.pointer (some ⟨r, 0, none⟩))).run P w' = .ok (.tuple #[ek p.1, ev p.2]) w' := by
  have hne := h.ne
  obtain ⟨es, clock, since, seen, c0, hb, hs, he, hr, hold, hl, hsc, hsk⟩ := h
  rcases run_next_at (P := P) w 0 r b since c0 seen es clock hr hb hold hsc with ⟨h0, hrun⟩ | ⟨e, hel, w1, hal, hrun⟩
  · refine Or.inl ⟨?_, fun _ => hrun⟩
    have h1 : (leftOf es seen).toList = [] := List.eq_nil_of_length_eq_zero (by simpa using h0)
    rw [h1] at hl
    exact List.map_eq_nil_iff.1 hl.symm
  · obtain ⟨hem, hes⟩ := mem_left hel
    obtain ⟨a, c, hac, hpush⟩ := left_push hs hel
    rw [hac, List.map_append, List.map_cons] at hl
    obtain ⟨a', lr, hlr, ha', hr'⟩ := List.map_eq_append_iff.1 hl.symm
    obtain ⟨p, c', rfl, hp, hc'⟩ := List.map_eq_cons_iff.1 hr'
    simp only [Prod.mk.injEq] at hp
    have hr1 : w1.heap[r]? = some (.mapIter (some b) since seen c0) := by rcases hal with rfl | rfl <;> exact hr
    have hb1 : w1.heap[b]? = some (.map es clock) := by rcases hal with rfl | rfl <;> exact hb
    have hset := heap_set (o' := .mapIter (some b) since (seen.push e.born) clock) hr1
    have hb' : (setBlock w1 r (.mapIter (some b) since (seen.push e.born) clock)).heap[b]? = some (.map es clock) := (hset.2 b (fun e1 => hne e1.symm)).trans hb1
    refine Or.inr ⟨a', p, c', _, hlr, fun _ => by rw [hp.1, hp.2]; exact hrun, ⟨es, clock, since, seen.push e.born, clock, hb', hs, he, hset.1, hold, ?_, hsk, hsk⟩, ⟨w1, _, hal, rfl⟩, ?_⟩
    · rw [hpush, List.map_append, List.map_append, ha', hc']
    · rw [hp.1, hp.2]
      exact run_entry_at _ r b since seen es clock e hset.1 hb' hem ((stamped_iff es clock).1 hs).2.1
end
end Go.Proofs.Ytopabknlgmihpaa
