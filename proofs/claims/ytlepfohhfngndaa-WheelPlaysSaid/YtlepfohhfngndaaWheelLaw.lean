/- The plain law of the wheel: a map of timers plays as the document's list in order. -/
import Derived.Test.YtlepfohhfngndaaDue
namespace Go.Proofs.Ytlepfohhfngndaa
open Go Go.RowKit Go.MapKept Go.ChangeMaps Go.Maps

theorem eq_of_perm_le {α : Type} (le : α → α → Prop) (anti : ∀ a b, le a b → le b a → a = b) : ∀ {l k : List α}, l.Perm k → l.Pairwise le → k.Pairwise le → l = k
  | [], k, h, _, _ => (List.nil_perm.1 h).symm
  | a :: l, [], h, _, _ => absurd h.symm (by simp)
  | a :: l, b :: k, h, h1, h2 => by
    obtain ⟨ha, hl⟩ := List.pairwise_cons.1 h1
    obtain ⟨hb, hk⟩ := List.pairwise_cons.1 h2
    have hab : a = b := by
      have h3 : a ∈ b :: k := h.mem_iff.1 List.mem_cons_self
      have h4 : b ∈ a :: l := h.mem_iff.2 List.mem_cons_self
      rcases List.mem_cons.1 h3 with e | h3
      · exact e
      · rcases List.mem_cons.1 h4 with e | h4
        · exact e.symm
        · exact anti _ _ (ha b h4) (hb a h3)
    subst hab
    rw [eq_of_perm_le le anti (List.Perm.cons_inv h) hl hk]

/-- No key twice. -/
def Keys1 (l : List (Id × Int)) : Prop := l.Pairwise (fun p q => p.1 ≠ q.1)
theorem Keys1.perm {l k : List (Id × Int)} (h : Keys1 l) (hp : l.Perm k) : Keys1 k := (List.Perm.pairwise_iff (R := fun p q : Id × Int => p.1 ≠ q.1) (fun {a b} h => Ne.symm h) hp).1 h
theorem aget_eq {l : List (Id × Int)} (h : Keys1 l) (i : Id) (v : Int) : aget l i = some v ↔ (i, v) ∈ l := by
  constructor
  · intro e
    unfold aget at e
    cases hf : l.find? (fun p => decide (p.1 = i)) with
    | none => rw [hf] at e; cases e
    | some p =>
      rw [hf] at e
      simp only [Option.map_some, Option.some.injEq] at e
      have h1 := List.mem_of_find?_eq_some hf
      have h2 := List.find?_some hf
      simp only [decide_eq_true_eq] at h2
      rw [← h2, ← e]
      exact h1
  · intro hm
    exact aget_some h hm
theorem aget_perm {l k : List (Id × Int)} (h : Keys1 l) (hp : l.Perm k) (i : Id) : aget l i = aget k i := by
  cases hk : aget k i with
  | some v => exact (aget_eq h i v).2 (hp.mem_iff.2 ((aget_eq (h.perm hp) i v).1 hk))
  | none =>
    cases hl : aget l i with
    | none => rfl
    | some v =>
      have := (aget_eq (h.perm hp) i v).2 (hp.mem_iff.1 ((aget_eq h i v).1 hl))
      rw [hk] at this
      cases this
theorem ahas_perm {l k : List (Id × Int)} (h : Keys1 l) (hp : l.Perm k) (i : Id) : ahas l i = ahas k i := by rw [ahas_eq, ahas_eq, aget_perm h hp]
theorem adel_perm {l k : List (Id × Int)} (hp : l.Perm k) (i : Id) : (adel l i).Perm (adel k i) := hp.filter _
theorem adel_keys {l : List (Id × Int)} (h : Keys1 l) (i : Id) : Keys1 (adel l i) := h.filter _
theorem aput_perm {l : List (Id × Int)} (h : Keys1 l) (i : Id) (v : Int) : (aput l i v).Perm ((i, v) :: adel l i) := by
  unfold aput
  by_cases hh : ahas l i = true
  · rw [if_pos hh]
    obtain ⟨p, hp, hpi⟩ := ahas_iff.1 hh
    obtain ⟨a, c, hac⟩ := List.append_of_mem hp
    subst hac
    have h1 : ∀ q ∈ a, q.1 ≠ i := fun q hq e => by
      have := (List.pairwise_append.1 h).2.2 q hq p List.mem_cons_self
      exact this (by rw [e, hpi])
    have h2 : ∀ q ∈ c, q.1 ≠ i := fun q hq e => by
      have := (List.pairwise_cons.1 (List.pairwise_append.1 h).2.1).1 q hq
      exact this (by rw [e, hpi])
    unfold adel
    rw [List.map_append, List.map_cons, if_pos hpi, List.filter_append, List.filter_cons_of_neg (by simpa using hpi)]
    have m1 : a.map (fun p => if p.1 = i then (i, v) else p) = a := by
      rw [List.map_congr_left (g := id) (fun q hq => by rw [if_neg (h1 q hq)]; rfl), List.map_id]
    have m2 : c.map (fun p => if p.1 = i then (i, v) else p) = c := by
      rw [List.map_congr_left (g := id) (fun q hq => by rw [if_neg (h2 q hq)]; rfl), List.map_id]
    rw [m1, m2, List.filter_eq_self.2 (fun q hq => by simpa using h1 q hq), List.filter_eq_self.2 (fun q hq => by simpa using h2 q hq)]
    exact List.perm_middle
  · rw [if_neg hh]
    have : adel l i = l := List.filter_eq_self.2 (fun q hq => by
      simp only [decide_eq_true_eq]
      intro e
      exact hh (ahas_iff.2 ⟨q, hq, e⟩))
    rw [this]
    exact List.perm_append_singleton _ _

/-- The document's order. -/
def Sorted (X : List (Id × Int)) : Prop := X.Pairwise (fun p q => aheadT p q = true)
theorem ahead_iff (p q : Id × Int) : aheadT p q = true ↔ (p.2 < q.2 ∨ p.2 = q.2 ∧ (p.1.n < q.1.n ∨ p.1.n = q.1.n ∧ p.1.r < q.1.r)) := by
  unfold aheadT
  rw [decide_eq_true_eq, lessId_iff]
theorem ahead_not (p q : Id × Int) : aheadT p q = false ↔ ¬ (p.2 < q.2 ∨ p.2 = q.2 ∧ (p.1.n < q.1.n ∨ p.1.n = q.1.n ∧ p.1.r < q.1.r)) := by
  rw [← ahead_iff]
  simp
theorem insLoop_true (t : Id × Int) : ∀ l : List (Id × Int), insLoop t l true = (l, true)
  | [] => rfl
  | x :: r => by simp only [insLoop, Bool.not_true, Bool.false_and, Bool.false_eq_true, if_false, insLoop_true t r]
theorem insT_cons (t x : Id × Int) (r : List (Id × Int)) : insT (x :: r) t = if aheadT t x then t :: x :: r else x :: insT r t := by
  unfold insT
  simp only [insLoop, Bool.not_false, Bool.true_and]
  by_cases h : aheadT t x = true
  · simp only [h, if_true, insLoop_true]
  · simp only [h, Bool.false_eq_true, if_false]
    split <;> rfl
theorem insT_perm (t : Id × Int) : ∀ l : List (Id × Int), (insT l t).Perm (t :: l)
  | [] => by simp [insT, insLoop]
  | x :: r => by
    rw [insT_cons]
    split
    · exact List.Perm.refl _
    · exact ((insT_perm t r).cons x).trans (List.Perm.swap _ _ _)
theorem insT_sorted (t : Id × Int) : ∀ {l : List (Id × Int)}, Sorted l → (∀ p ∈ l, p.1 ≠ t.1) → Sorted (insT l t)
  | [], _, _ => by simp [insT, insLoop, Sorted]
  | x :: r, h, hk => by
    obtain ⟨h1, h2⟩ := List.pairwise_cons.1 h
    rw [insT_cons]
    by_cases hx : aheadT t x = true
    · rw [if_pos hx]
      refine List.pairwise_cons.2 ⟨fun q hq => ?_, h⟩
      rcases List.mem_cons.1 hq with rfl | hq
      · exact hx
      · have := h1 q hq
        rw [ahead_iff] at *
        omega
    · rw [if_neg hx]
      refine List.pairwise_cons.2 ⟨fun q hq => ?_, insT_sorted t h2 (fun p hp => hk p (List.mem_cons_of_mem _ hp))⟩
      rcases List.mem_cons.1 ((insT_perm t r).mem_iff.1 hq) with rfl | hq
      · have hne := hk x List.mem_cons_self
        have hne' : ¬ (x.1.r = q.1.r ∧ x.1.n = q.1.n) := fun e => hne (Id.ext' e.1 e.2)
        have hx' : aheadT q x = false := by simpa using hx
        rw [ahead_not] at hx'
        rw [ahead_iff]
        omega
      · exact h1 q hq

/-- The map's entries M and the document's list X say the same. -/
structure Plays (M X : List (Id × Int)) : Prop where
  perm : M.Perm X
  keys : Keys1 M
  sorted : Sorted X
theorem Plays.start : Plays [] [] := ⟨List.Perm.refl _, List.Pairwise.nil, List.Pairwise.nil⟩
theorem Plays.keysX {M X : List (Id × Int)} (h : Plays M X) : Keys1 X := h.keys.perm h.perm
theorem Plays.set {M X : List (Id × Int)} (h : Plays M X) (i : Id) (v : Int) : Plays (aput M i v) (setT X (i, v)) := by
  have hp : (aput M i v).Perm (setT X (i, v)) := by
    refine (aput_perm h.keys i v).trans ?_
    unfold setT
    exact ((adel_perm h.perm i).cons _).trans (insT_perm (i, v) (adel X i)).symm
  have hk : Keys1 ((i, v) :: adel M i) := List.pairwise_cons.2 ⟨fun q hq => by
    have := (List.mem_filter.1 hq).2
    simp only [decide_eq_true_eq] at this
    exact fun e => this e.symm, adel_keys h.keys i⟩
  refine ⟨hp, hk.perm (aput_perm h.keys i v).symm, ?_⟩
  unfold setT
  refine insT_sorted _ (List.Pairwise.filter _ h.sorted) (fun p hp => ?_)
  have := (List.mem_filter.1 hp).2
  simpa using this
theorem Plays.del {M X : List (Id × Int)} (h : Plays M X) (i : Id) : Plays (adel M i) (adel X i) :=
  ⟨adel_perm h.perm i, adel_keys h.keys i, List.Pairwise.filter _ h.sorted⟩

/-- Where an id stands. -/
theorem findT_spec {X : List (Id × Int)} (h : Keys1 X) (i : Id) : (findT X i = -1 ∧ aget X i = none) ∨ ∃ k : Nat, ∃ hk : k < X.length, findT X i = k ∧ aget X i = some X[k].2 := by
  unfold findT
  cases hf : X.findIdx? (fun p => decide (p.1 = i)) with
  | none =>
    refine Or.inl ⟨rfl, ?_⟩
    have := List.findIdx?_eq_none_iff.1 hf
    exact aget_none (fun p hp => by simpa using this p hp)
  | some k =>
    obtain ⟨hk, h1, _⟩ := List.findIdx?_eq_some_iff_getElem.1 hf
    simp only [decide_eq_true_eq] at h1
    refine Or.inr ⟨k, hk, rfl, ?_⟩
    have := aget_some h (List.getElem_mem hk)
    rw [h1] at this
    exact this

/-- Of a list in order those that are due stand ahead. -/
theorem due_take : ∀ {X : List (Id × Int)}, Sorted X → ∀ now, X.filter (fun p => decide (p.2 ≤ now)) = X.take (dueT X now)
  | [], _, _ => by simp
  | x :: r, h, now => by
    obtain ⟨h1, h2⟩ := List.pairwise_cons.1 h
    unfold dueT
    by_cases hx : x.2 ≤ now
    · rw [List.filter_cons_of_pos (by simpa using hx), List.takeWhile_cons_of_pos (by simpa using hx), List.length_cons, List.take_succ_cons]
      congr 1
      exact due_take h2 now
    · rw [List.filter_cons_of_neg (by simpa using hx), List.takeWhile_cons_of_neg (by simpa using hx), List.length_nil, List.take_zero]
      refine List.filter_eq_nil_iff.2 (fun q hq => ?_)
      have := h1 q hq
      rw [ahead_iff] at this
      simp only [decide_eq_true_eq]
      omega
theorem dueT_le (X : List (Id × Int)) (now : Int) : dueT X now ≤ X.length := List.Sublist.length_le (List.takeWhile_sublist _)

/-- What Due hands out is what the document says. -/
theorem Plays.due {M X : List (Id × Int)} (h : Plays M X) {now : Int} {out : List Id} (hc : Collected M [] now out) : dueIds M out = (X.take (dueT X now)).map (·.1) := by
  obtain ⟨done, hp, rfl⟩ := hc
  rw [List.append_nil] at hp
  have h1 : ((done.filter (fun p => decide (p.2 ≤ now))).map (·.1)).Perm ((X.take (dueT X now)).map (·.1)) := by
    rw [← due_take h.sorted]
    exact ((hp.trans h.perm).filter _).map _
  have hle : ∀ x y : Id, (!(ltOf (dueCmp M)) y x) = true ↔ ltOf (dueCmp M) y x = false := fun x y => by simp
  refine eq_of_perm_le (fun x y => (!(ltOf (dueCmp M)) y x) = true) (fun x y h1 h2 => totDue M x y ((hle _ _).1 h2) ((hle _ _).1 h1)) ((List.mergeSort_perm _ _).trans h1) ?_ ?_
  · refine List.pairwise_mergeSort (fun a b c => ?_) (fun a b => ?_) _
    · intro e1 e2
      rw [hle] at *
      exact (swoDue M).ntrans _ _ _ e2 e1
    · rw [Bool.or_eq_true, hle, hle, ltOf_due, ltOf_due, decide_eq_false_iff_not, decide_eq_false_iff_not, lessId_iff, lessId_iff]
      omega
  · rw [List.pairwise_map]
    have h2 : (X.take (dueT X now)).Pairwise (fun p q => aheadT p q = true) := List.Pairwise.sublist (List.take_sublist _ _) h.sorted
    have hat : ∀ p ∈ X, atOf M p.1 = p.2 := fun p hp' => by
      unfold atOf
      rw [(aget_eq h.keys p.1 p.2).2 (h.perm.mem_iff.2 hp')]
      rfl
    refine List.Pairwise.imp_of_mem (fun {p q} hp' hq' hpq => ?_) h2
    rw [hle, ltOf_due, decide_eq_false_iff_not, hat p (List.mem_of_mem_take hp'), hat q (List.mem_of_mem_take hq'), lessId_iff]
    rw [ahead_iff] at hpq
    omega

theorem foldl_adel : ∀ (D : List Id) (l : List (Id × Int)), D.foldl adel l = l.filter (fun p => decide (p.1 ∉ D))
  | [], l => by
    rw [List.filter_eq_self.2 (fun p _ => by simp)]; rfl
  | i :: D, l => by
    rw [List.foldl_cons, foldl_adel D]
    unfold adel
    rw [List.filter_filter]
    congr 1
    funext p
    rw [Bool.eq_iff_iff]
    simp
    exact ⟨fun ⟨a, b⟩ => ⟨b, a⟩, fun ⟨a, b⟩ => ⟨b, a⟩⟩
theorem drop_filter {X : List (Id × Int)} (h : Keys1 X) (n : Nat) : X.filter (fun p => decide (p.1 ∉ (X.take n).map (·.1))) = X.drop n := by
  have h0 : Keys1 (X.take n ++ X.drop n) := by rw [List.take_append_drop]; exact h
  obtain ⟨_, _, h3⟩ := List.pairwise_append.1 h0
  have e : X.filter (fun p => decide (p.1 ∉ (X.take n).map (·.1))) = (X.take n ++ X.drop n).filter (fun p => decide (p.1 ∉ (X.take n).map (·.1))) := by rw [List.take_append_drop]
  rw [e, List.filter_append, List.filter_eq_nil_iff.2 (fun p hp => by
    simp only [decide_eq_true_eq]
    exact fun h => h (List.mem_map.2 ⟨p, hp, rfl⟩)), List.nil_append]
  refine List.filter_eq_self.2 (fun p hp => ?_)
  simp only [decide_eq_true_eq, List.mem_map, not_exists, not_and]
  exact fun q hq e => h3 q hq p hp e
theorem Plays.drop {M X : List (Id × Int)} (h : Plays M X) (n : Nat) : Plays (((X.take n).map (·.1)).foldl adel M) (X.drop n) := by
  rw [foldl_adel]
  refine ⟨?_, h.keys.filter _, List.Pairwise.sublist (List.drop_sublist _ _) h.sorted⟩
  rw [← drop_filter h.keysX n]
  exact h.perm.filter _

/-- The least tick is the first one's. -/
theorem Plays.least {M X : List (Id × Int)} (h : Plays M X) : leastOf (M.map (·.2)) = X.head?.map (·.2) := by
  rw [leastOf_perm (h.perm.map _)]
  cases X with
  | nil => rfl
  | cons x r =>
    refine leastOf_some (by simp) (fun y hy => ?_)
    obtain ⟨q, hq, rfl⟩ := List.mem_map.1 hy
    rcases List.mem_cons.1 hq with rfl | hq
    · exact Int.le_refl _
    · have := (List.pairwise_cons.1 h.sorted).1 q hq
      rw [ahead_iff] at this
      show x.2 ≤ q.2
      omega
theorem Plays.len {M X : List (Id × Int)} (h : Plays M X) : M.length = X.length := h.perm.length_eq
end Go.Proofs.Ytlepfohhfngndaa
