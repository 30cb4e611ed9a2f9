/- slices.Clone, slices.Compact at ids; ids.Set. -/
import Derived.Test.YtlepfohhfngndaaIds
import Derived.Test.YtlepfohhfngndaaLaidP
import Derived.Test.YtlepfohhfngndaaSort
import Derived.Maps.AppendAt
import Derived.Laws.IdiomCopy
import Derived.Lib.SliceRun
namespace Go.Proofs.Ytlepfohhfngndaa
open Go Go.RowKit Go.MapKept Go.ChangeMaps Go.Maps Go.Sort

/-- Of neighbours that are alike the first. -/
def cstep (out : List Id) (x : Id) : List Id := if out.getLast? = some x then out else out ++ [x]
def cmpct (l : List Id) : List Id := l.foldl cstep []
theorem cmpct_snoc' (l : List Id) (x : Id) : cmpct (l ++ [x]) = cstep (cmpct l) x := by unfold cmpct; rw [List.foldl_append]; rfl
theorem snoc_ind {p : List Id → Prop} (h0 : p []) (h1 : ∀ l x, p l → p (l ++ [x])) : ∀ l, p l := by
  intro l
  rw [← List.reverse_reverse l]
  generalize l.reverse = r
  induction r with
  | nil => exact h0
  | cons a r ih => rw [List.reverse_cons]; exact h1 _ _ ih
theorem cmpct_last (l : List Id) : (cmpct l).getLast? = l.getLast? := by
  induction l using snoc_ind with
  | h0 => rfl
  | h1 l x ih =>
    rw [cmpct_snoc', List.getLast?_append]
    unfold cstep
    split
    · rename_i h; rw [h]; simp
    · simp
theorem cmpct_len (l : List Id) : (cmpct l).length ≤ l.length := by
  induction l using snoc_ind with
  | h0 => simp [cmpct]
  | h1 l x ih =>
    rw [cmpct_snoc']
    unfold cstep
    split <;> simp <;> omega
theorem cmpct_mem (l : List Id) (x : Id) : x ∈ cmpct l ↔ x ∈ l := by
  induction l using snoc_ind with
  | h0 => simp [cmpct]
  | h1 l y ih =>
    rw [cmpct_snoc']
    unfold cstep
    split
    · rename_i h
      rw [ih]
      have : y ∈ l := by
        rw [cmpct_last] at h
        exact List.mem_of_getLast? h
      simp only [List.mem_append, List.mem_singleton]
      exact ⟨Or.inl, fun h => h.elim id (fun e => e ▸ this)⟩
    · simp [ih]
theorem cmpct_snoc (l : List Id) (k : Nat) (h0 : k + 1 < l.length) : cmpct (l.take (k + 1 + 1)) = if l[k + 1] = l[k] then cmpct (l.take (k + 1)) else cmpct (l.take (k + 1)) ++ [l[k + 1]] := by
  rw [List.take_succ_eq_append_getElem h0, cmpct_snoc']
  unfold cstep
  rw [cmpct_last]
  have : (l.take (k + 1)).getLast? = some l[k] := by
    rw [List.take_succ_eq_append_getElem (by omega : k < l.length), List.getLast?_append]
    rfl
  rw [this]
  simp only [Option.some.injEq]
  by_cases h : l[k] = l[k + 1]
  · rw [if_pos h, if_pos h.symm]
  · rw [if_neg h, if_neg (fun e => h e.symm)]

/-- In order, none twice. -/
def Strict (l : List Id) : Prop := l.Pairwise (fun x y => lessId x y = true)
theorem cmpct_strict {l : List Id} (h : l.Pairwise (fun x y => lessId y x = false)) : Strict (cmpct l) := by
  induction l using snoc_ind with
  | h0 => exact List.Pairwise.nil
  | h1 l x ih =>
    obtain ⟨h1, _, h3⟩ := List.pairwise_append.1 h
    rw [cmpct_snoc']
    unfold cstep
    split
    · exact ih h1
    · rename_i hne
      refine List.pairwise_append.2 ⟨ih h1, List.pairwise_singleton _ _, fun y hy z hz => ?_⟩
      rw [List.mem_singleton] at hz
      subst hz
      have hyl := (cmpct_mem l y).1 hy
      have h4 := h3 y hyl z (by simp)
      rw [lessId_not] at h4
      rw [lessId_iff]
      -- y is not z: else y were the last
      rcases Decidable.em (y = z) with e | e
      · exfalso
        subst e
        rw [cmpct_last] at hne
        have hl : l ≠ [] := by intro e; subst e; simp at hyl
        obtain ⟨u, hu⟩ : ∃ u, l.getLast? = some u := ⟨l.getLast hl, List.getLast?_eq_some_getLast hl⟩
        rw [hu] at hne
        simp only [Option.some.injEq] at hne
        obtain ⟨m, rfl⟩ := List.getLast?_eq_some_iff.1 hu
        obtain ⟨_, _, h5⟩ := List.pairwise_append.1 h1
        rcases List.mem_append.1 hyl with hm | hm
        · have h6 := h5 y hm u (by simp)
          have h7 := h3 u (by simp) y (by simp)
          rw [lessId_not] at h6 h7
          exact hne (Id.ext' (by omega) (by omega))
        · exact hne (List.mem_singleton.1 hm).symm
      · have : ¬ (y.r = z.r ∧ y.n = z.n) := fun h => e (Id.ext' h.1 h.2)
        omega
theorem strict_ext : ∀ {l m : List Id}, Strict l → Strict m → (∀ x, x ∈ l ↔ x ∈ m) → l = m
  | [], [], _, _, _ => rfl
  | [], b :: m, _, _, h => absurd ((h b).2 List.mem_cons_self) (by simp)
  | a :: l, [], _, _, h => absurd ((h a).1 List.mem_cons_self) (by simp)
  | a :: l, b :: m, h1, h2, h => by
    obtain ⟨ha, hl⟩ := List.pairwise_cons.1 h1
    obtain ⟨hb, hm⟩ := List.pairwise_cons.1 h2
    have hirr : ∀ x : Id, lessId x x = false := fun x => by rw [lessId_not]; omega
    have hab : a = b := by
      rcases List.mem_cons.1 ((h a).1 List.mem_cons_self) with e | h3
      · exact e
      · rcases List.mem_cons.1 ((h b).2 List.mem_cons_self) with e | h4
        · exact e.symm
        · have := ha b h4
          have := hb a h3
          rw [lessId_iff] at *
          omega
    subst hab
    congr 1
    refine strict_ext hl hm (fun x => ?_)
    have := h x
    simp only [List.mem_cons] at this
    constructor
    · intro hx
      rcases this.1 (Or.inr hx) with e | e
      · subst e
        have := ha x hx
        rw [hirr] at this
        cases this
      · exact e
    · intro hx
      rcases this.2 (Or.inr hx) with e | e
      · subst e
        have := hb x hx
        rw [hirr] at this
        cases this
      · exact e
theorem addG_strict (x : Id) : ∀ {l : List Id}, Strict l → x ∉ l → Strict (addG lessId l x)
  | [], _, _ => by simp [addG, insG, Strict]
  | a :: r, h, hx => by
    obtain ⟨h1, h2⟩ := List.pairwise_cons.1 h
    simp only [List.mem_cons, not_or] at hx
    rw [addG_cons]
    have hne : ¬ (x.r = a.r ∧ x.n = a.n) := fun e => hx.1 (Id.ext' e.1 e.2)
    by_cases hl : lessId x a = true
    · rw [if_pos hl]
      refine List.pairwise_cons.2 ⟨fun y hy => ?_, h⟩
      rcases List.mem_cons.1 hy with rfl | hy
      · exact hl
      · have := h1 y hy
        rw [lessId_iff] at *
        omega
    · rw [if_neg hl]
      refine List.pairwise_cons.2 ⟨fun y hy => ?_, addG_strict x h2 hx.2⟩
      rcases List.mem_cons.1 ((addG_perm lessId x r).mem_iff.1 hy) with rfl | hy
      · have hl' : lessId y a = false := by simpa using hl
        rw [lessId_not] at hl'
        rw [lessId_iff]
        omega
      · exact h1 y hy
theorem setStep_mem (out : List Id) (x y : Id) : y ∈ setStep out x ↔ y ∈ out ∨ y = x := by
  unfold setStep
  split
  · rename_i h
    exact ⟨Or.inl, fun h' => h'.elim id (fun e => e ▸ h)⟩
  · rw [(addG_perm lessId x out).mem_iff, List.mem_cons]
    exact or_comm
theorem setR_fold (l : List Id) : ∀ out, Strict out → Strict (l.foldl setStep out) ∧ ∀ x, x ∈ l.foldl setStep out ↔ x ∈ out ∨ x ∈ l := by
  induction l with
  | nil => intro out h; exact ⟨h, fun x => by simp⟩
  | cons a r ih =>
    intro out h
    rw [List.foldl_cons]
    have hs : Strict (setStep out a) := by
      unfold setStep
      split
      · exact h
      · rename_i hm; exact addG_strict a h hm
    obtain ⟨h1, h2⟩ := ih _ hs
    refine ⟨h1, fun x => ?_⟩
    rw [h2, setStep_mem, List.mem_cons, or_assoc]
theorem setR_strict (l : List Id) : Strict (setR l) := (setR_fold l [] List.Pairwise.nil).1
theorem setR_mem (l : List Id) (x : Id) : x ∈ setR l ↔ x ∈ l := by rw [setR, (setR_fold l [] List.Pairwise.nil).2]; simp

/-- The ids in order. -/
def sortI (l : List Id) : List Id := l.mergeSort fun x y => !(ltOf orderId) y x
theorem ltOf_order (x y : Id) : ltOf orderId x y = lessId x y := by
  unfold ltOf
  rw [Bool.eq_iff_iff, decide_eq_true_eq, orderId_neg]
theorem swoOrder : SWO (ltOf orderId) where
  irrefl x := by rw [ltOf_order, lessId_not]; omega
  trans x y z h1 h2 := by
    simp only [ltOf_order, lessId_iff] at *
    omega
  ntrans x y z h1 h2 := by
    simp only [ltOf_order, lessId_not] at *
    omega
theorem totOrder (x y : Id) (h1 : ltOf orderId x y = false) (h2 : ltOf orderId y x = false) : x = y := by
  simp only [ltOf_order, lessId_not] at h1 h2
  exact Id.ext' (by omega) (by omega)
theorem sortI_perm (l : List Id) : (sortI l).Perm l := List.mergeSort_perm _ _
theorem sortI_sorted (l : List Id) : (sortI l).Pairwise (fun x y => lessId y x = false) := by
  have : (sortI l).Pairwise (fun x y => (!(ltOf orderId) y x) = true) := by
    refine List.pairwise_mergeSort (fun a b c => ?_) (fun a b => ?_) _
    · intro e1 e2
      simp only [ltOf_order, Bool.not_eq_true', lessId_not] at *
      omega
    · rw [Bool.or_eq_true]
      simp only [ltOf_order, Bool.not_eq_true', lessId_not]
      omega
  exact this.imp (fun {a b} h => by simpa [ltOf_order] using h)
/-- ids.Set is the document's set. -/
theorem set_eq (l : List Id) : cmpct (sortI l) = setR l :=
  strict_ext (cmpct_strict (sortI_sorted l)) (setR_strict l) (fun x => by rw [cmpct_mem, (sortI_perm l).mem_iff, setR_mem])

theorem oneFlat (l : List Id) : ∀ u ∈ l.flatMap encId, u.oneCell' = true := fun u hu => by
  obtain ⟨x, _, hx⟩ := List.mem_flatMap.1 hu
  exact oneId x u hx
set_option maxRecDepth 100000 in
set_option maxHeartbeats 800000 in
theorem Clone_any (w : World) (a : Option Addr) (g off cap : Nat) (l : List Id) (h : RdS encId 2 w a g off l) (hl : l.length ≤ 50000) :
    Calls Try.prog 61 #[.slice a l.length cap] w fun e w' => ∃ v, e = .returned v ∧ Owns w.heap.size 28 encId 2 w' v l ∧ Below w.heap.size w w' := by
  cases a with
  | none =>
    have h0 : l = [] := by
      by_cases hl : l = []
      · exact hl
      · cases h.some hl
    subst h0
    have hq : ∀ W, (binOp .eql 40 (.slice none 0 cap) (.slice none 0 0)).run Try.prog W = .ok (.bool true) W := fun W => Lib.run_eql_slice_nil W _ _ _ _ _ _ _ Try.underlying40
    go_enter Try.func61, Try.ntmps61
    go_wp2
    go_ret
    exact ⟨_, rfl, Owns.nil _ _ _ _ _, Below.refl _ _⟩
  | some ad =>
    have hq : ∀ W, (binOp .eql 40 (.slice (some ad) l.length cap) (.slice none 0 0)).run Try.prog W = .ok (.bool false) W := fun W => Lib.run_eql_slice_nil W _ _ _ _ _ _ _ Try.underlying40
    go_enter Try.func61, Try.ntmps61
    obtain ⟨i, z, hi, hz, hsz, hby, hzs⟩ := elemId.info
    have hown0 : Owns w.heap.size 28 encId 2 (w.alloc (.cells #[] 28)) (.slice (some ⟨w.heap.size, 0, none⟩) 0 0) [] :=
      ⟨rfl, Or.inr ⟨_, 0, #[], rfl, Nat.le_refl _, (MapKept.heap_alloc w _).1, Nat.le_refl _, by unfold maxLen; omega, rfl, rfl⟩⟩
    have hce : ∀ j u, (l.flatMap encId)[j]? = some u → (w.alloc (.cells #[] 28)).cell? (ad.add j) = some u := fun j u hj => by
      have hj1 : j < (l.flatMap encId).length := (List.getElem?_eq_some_iff.1 hj).1
      have hne : l ≠ [] := by intro e; subst e; simp at hj1
      have ha := h.some hne
      simp only [Option.some.injEq] at ha
      subst ha
      rw [flat_length encId_len] at hj1
      have h2 := h.below (((Ext.refl w).alloc (.cells #[] 28)).below)
      obtain ⟨x, hx⟩ : ∃ x, l[j / 2]? = some x := ⟨_, List.getElem?_eq_getElem (by omega)⟩
      obtain ⟨y, hy⟩ : ∃ y, (encId x)[j % 2]? = some y := ⟨_, List.getElem?_eq_getElem (by rw [encId_len]; omega)⟩
      have h3 := flat_get encId_len l _ x hx _ y hy
      rw [show j / 2 * 2 + j % 2 = j by omega, hj] at h3
      have h4 := h2.cells _ x hx _ y hy
      rw [show off + j / 2 * 2 + j % 2 = off + j by omega] at h4
      rw [add_lit, h4, h3]
    have HC := hid hce
    clear hce h
    go_wp2_with (at_builtin; go_must (refine wpList_append_own_at _ rfl _ _ _ rfl w.heap.size _ i z 2 16 elemId.under hi hz hsz hby hzs (by omega) _ 0 [] rfl hown0 ad l.length cap (l.flatMap encId) rfl (flat_length encId_len l) HC.out ?_ ?_ ?_ (by simp) ?_))
    · exact oneFlat l
    · unfold maxLen; omega
    · omega
    intro v' w' hown' hgrow _ _
    have hb : RowKit.Below w.heap.size w w' := ((Ext.refl w).alloc _).below.grown hgrow (by simp) (fun g hg => by cases hg; exact Nat.le_refl _)
    have HB := hid hb
    have HO := hid hown'
    clear hb hown' hgrow
    go_wp2
    go_ret
    exact ⟨_, rfl, HO.out, HB.out⟩

theorem index_id (n cap g off i : Nat) (hi : i < n) (W : World) : (Instr.indexAt 40 (.slice (some ⟨g, off, none⟩) n cap) (.int .i64 i)).run Try.prog W = .ok (.pointer (some ⟨g, off + i * 2, none⟩)) W := by
  simp [Instr.indexAt, run_underlying Try.underlying40, sizeId, asIntOf, add_lit, hi]
set_option maxRecDepth 100000 in
theorem cut_lo (n cap g lo : Nat) (h1 : lo < n) (h2 : n ≤ cap) : (∀ W, (Instr.slice 40 (.slice (some ⟨g, 0, none⟩) n cap) (some (.int .i64 lo)) none none).run Try.prog W = .ok (.slice (some ⟨g, lo * 2, none⟩) (n - lo) (cap - lo)) W) ∧ ∀ W, (Instr.sliceAt 40 (.slice (some ⟨g, 0, none⟩) n cap) (some (.int .i64 lo)) none none).run Try.prog W = .ok (.slice (some ⟨g, lo * 2, none⟩) (n - lo) (cap - lo)) W := by
  have h : ∀ W, (Instr.slice 40 (.slice (some ⟨g, 0, none⟩) n cap) (some (.int .i64 lo)) none none).run Try.prog W = .ok (.slice (some ⟨g, lo * 2, none⟩) (n - lo) (cap - lo)) W := fun W => by
    have h3 : ¬ cap = lo := by omega
    simp [Instr.slice, run_underlying Try.underlying40, sizeId, Instr.sliceBounds, Instr.sliceBound, asIntOf, show lo ≤ n by omega, h3, add_lit]
  refine ⟨h, fun W => ?_⟩
  unfold Instr.sliceAt
  rw [Sem.run_bind, run_underlying Try.underlying40]
  exact h W
set_option maxRecDepth 100000 in
theorem cut_hi (n cap g hi : Nat) (h1 : hi ≤ n) (h2 : n ≤ cap) : (∀ W, (Instr.slice 40 (.slice (some ⟨g, 0, none⟩) n cap) none (some (.int .i64 hi)) none).run Try.prog W = .ok (.slice (some ⟨g, 0, none⟩) hi cap) W) ∧ ∀ W, (Instr.sliceAt 40 (.slice (some ⟨g, 0, none⟩) n cap) none (some (.int .i64 hi)) none).run Try.prog W = .ok (.slice (some ⟨g, 0, none⟩) hi cap) W := by
  have h : ∀ W, (Instr.slice 40 (.slice (some ⟨g, 0, none⟩) n cap) none (some (.int .i64 hi)) none).run Try.prog W = .ok (.slice (some ⟨g, 0, none⟩) hi cap) W := fun W => by
    have h3 : hi ≤ cap := by omega
    simp [Instr.slice, run_underlying Try.underlying40, sizeId, Instr.sliceBounds, Instr.sliceBound, asIntOf, h3, add_lit]
  refine ⟨h, fun W => ?_⟩
  unfold Instr.sliceAt
  rw [Sem.run_bind, run_underlying Try.underlying40]
  exact h W

theorem heap_setCell_at {w : World} {g o : Nat} {cur : Array Value} {e : TypeId} {fr : Nat × Nat} (h : w.heap[g]? = some (.cells cur e fr)) (u : Value) : (w.setCell ⟨g, o, none⟩ u).heap[g]? = some (.cells (cur.setIfInBounds o u) e fr) := by
  unfold World.setCell
  simp only [Array.getElem?_modify, if_true, h]
  rfl
/-- s[i] = x, s a row that the call owns. -/
theorem Owns.set {base g n cap i : Nat} {e : TypeId} {w : World} {l : List Id} (h : Owns base e encId 2 w (.slice (some ⟨g, 0, none⟩) n cap) l) (hi : i < l.length) (x : Id) :
    Owns base e encId 2 ((w.setCell ⟨g, i * 2, none⟩ (.int .i64 x.r)).setCell ⟨g, i * 2 + 1, none⟩ (.int .i64 x.n)) (.slice (some ⟨g, 0, none⟩) n cap) (l.set i x) := by
  unfold Owns at *
  rw [List.length_set]
  refine ⟨by rw [flat_length encId_len, List.length_set], ?_⟩
  rcases h.2 with ⟨h0, _⟩ | ⟨g', cap', cur, hv, hb, hg, hc, hm, hs, ht⟩
  · cases h0
  · cases hv
    refine Or.inr ⟨g, cap, _, rfl, hb, heap_setCell_at (heap_setCell_at hg _) _, hc, hm, by simpa using hs, ?_⟩
    apply List.ext_getElem?
    intro j
    have hcur : ∀ j, j < l.length * 2 → cur[j]? = (l.flatMap encId)[j]? := fun j hj => by
      rw [← ht, List.getElem?_take, if_pos hj, Array.getElem?_toList]
    rw [List.getElem?_take]
    by_cases hj : j < l.length * 2
    · rw [if_pos hj, Array.getElem?_toList]
      obtain ⟨y, hy⟩ : ∃ y, (l.set i x)[j / 2]? = some y := ⟨_, List.getElem?_eq_getElem (by rw [List.length_set]; omega)⟩
      obtain ⟨z, hz⟩ : ∃ z, (encId y)[j % 2]? = some z := ⟨_, List.getElem?_eq_getElem (by rw [encId_len]; omega)⟩
      have h3 := flat_get encId_len (l.set i x) _ y hy _ z hz
      rw [show j / 2 * 2 + j % 2 = j by omega] at h3
      rw [h3]
      rw [List.getElem?_set] at hy
      by_cases hij : i = j / 2
      · rw [if_pos hij, if_pos hi] at hy
        cases hy
        rcases Nat.mod_two_eq_zero_or_one j with h0 | h0
        · rw [h0] at hz
          cases hz
          rw [Array.getElem?_setIfInBounds_ne (by omega), show j = i * 2 by omega, Array.getElem?_setIfInBounds_self_of_lt (by omega)]
        · rw [h0] at hz
          cases hz
          rw [show j = i * 2 + 1 by omega, Array.getElem?_setIfInBounds_self_of_lt (by simp; omega)]
      · rw [if_neg hij] at hy
        rw [Array.getElem?_setIfInBounds_ne (by omega), Array.getElem?_setIfInBounds_ne (by omega), hcur j hj]
        have h4 := flat_get encId_len l _ y hy _ z hz
        rw [show j / 2 * 2 + j % 2 = j by omega] at h4
        exact h4
    · rw [if_neg hj, List.getElem?_eq_none]
      rw [flat_length encId_len, List.length_set]
      omega
theorem setCells_at {g : Nat} {e : TypeId} {fr : Nat × Nat} : ∀ (vs : List Value) (o : Nat) (w : World) (cur : Array Value), w.heap[g]? = some (.cells cur e fr) → ∃ cur', (w.setCells g o vs).heap[g]? = some (.cells cur' e fr) ∧ cur'.size = cur.size ∧ cur'.toList.take o = cur.toList.take o
  | [], o, w, cur, h => ⟨cur, h, rfl, rfl⟩
  | v :: r, o, w, cur, h => by
    obtain ⟨cur', h1, h2, h3⟩ := setCells_at r (o + 1) _ _ (heap_setCell_at (o := o) h v)
    refine ⟨cur', h1, by simpa using h2, ?_⟩
    have h4 := congrArg (List.take o) h3
    rw [List.take_take, List.take_take, Nat.min_eq_left (by omega)] at h4
    rw [h4]
    apply List.ext_getElem?
    intro j
    rw [List.getElem?_take, List.getElem?_take]
    split
    · rw [Array.getElem?_toList, Array.getElem?_toList, Array.getElem?_setIfInBounds_ne (by omega)]
    · rfl
theorem Keeps.setCells {S : Nat → Prop} {g : Nat} (hg : S g) {w : World} : ∀ (vs : List Value) (o : Nat) {w' : World}, Keeps S w w' → Keeps S w (w'.setCells g o vs)
  | [], _, _, h => h
  | v :: r, o, _, h => Keeps.setCells hg r (o + 1) (h.setCell (fun _ => hg) v)
theorem zeroId : ∀ W, (zeroValue 28).run Try.prog W = .ok (.agg #[.int .i64 0, .int .i64 0]) W := fun W => by kernel_rfl
/-- clear(s[lo:]) and s[:lo]. -/
theorem Owns.clear {base g n cap lo : Nat} {e : TypeId} {w : World} {l : List Id} (h : Owns base e encId 2 w (.slice (some ⟨g, 0, none⟩) n cap) l) (hn : l.length = n) (hlo : lo < n) :
    ∃ W', (∀ ty, (Builtin.clear_ #[40] ty #[.slice (some ⟨g, lo * 2, none⟩) (n - lo) (cap - lo)]).run Try.prog w = .ok (.tuple #[]) W') ∧ Owns base e encId 2 W' (.slice (some ⟨g, 0, none⟩) lo cap) (l.take lo) ∧ Keeps (· = g) w W' := by
  rcases h.2 with ⟨h0, _⟩ | ⟨g', cap', cur, hv, hb, hg, hc, hm, hs, ht⟩
  · cases h0
  · cases hv
    have hz : ∀ v ∈ (Builtin.zeroCells (Value.agg #[.int .i64 0, .int .i64 0]).cells (l.length - lo)).toList, v.oneCell' = true := fun v hv => by
      simp only [Builtin.zeroCells, Array.toList_map, List.mem_map] at hv
      obtain ⟨i, _, rfl⟩ := hv
      have h2 : i % (Value.agg #[.int .i64 0, .int .i64 0]).cells.size < 2 := Nat.mod_lt _ (by decide)
      revert h2
      generalize i % (Value.agg #[.int .i64 0, .int .i64 0]).cells.size = k
      intro h2
      rcases k with _ | _ | k
      · rfl
      · rfl
      · omega
    have hzl : (Builtin.zeroCells (Value.agg #[.int .i64 0, .int .i64 0]).cells (l.length - lo)).toList.length = (l.length - lo) * 2 := by
      simp [Builtin.zeroCells, Value.cells]
    obtain ⟨cur', k1, k2, k3⟩ := setCells_at (Builtin.zeroCells (Value.agg #[.int .i64 0, .int .i64 0]).cells (l.length - lo)).toList (lo * 2) w cur hg
    refine ⟨w.setCells g (lo * 2) (Builtin.zeroCells (Value.agg #[.int .i64 0, .int .i64 0]).cells (l.length - lo)).toList, fun ty => ?_, ⟨by rw [flat_length encId_len], Or.inr ⟨g, cap, cur', ?_, hb, k1, by simp; omega, hm, k2.trans hs, ?_⟩⟩, Keeps.setCells (S := (· = g)) rfl _ _ (Keeps.refl _ _)⟩
    · have hst := run_storeCells_cells (P := Try.prog) g (lo * 2) (Builtin.zeroCells (Value.agg #[.int .i64 0, .int .i64 0]).cells (l.length - lo)).toList 0 w (fun j hj => by
        rw [hzl] at hj
        simp only [World.cell?, hg, Nat.add_zero]
        rw [Option.isSome_iff_exists]
        exact ⟨_, Array.getElem?_eq_getElem (by have := Nat.mul_le_mul_right 2 hc; omega)⟩) (fun j hj => by simp [World.frozen?, hg]) hz
      simp only [Nat.add_zero] at hst
      obtain ⟨m, hm'⟩ : ∃ m, l.length - lo = m + 1 := ⟨l.length - lo - 1, by omega⟩
      rw [hm'] at hst ⊢
      simp [Builtin.clear_, run_underlying Try.underlying40, zeroId, hst]
    · rw [List.length_take, Nat.min_eq_left (by omega)]
    · rw [List.length_take, Nat.min_eq_left (by omega), k3]
      have h5 := congrArg (List.take (lo * 2)) ht
      rw [List.take_take, Nat.min_eq_left (by omega)] at h5
      rw [h5]
      have h6 : l.flatMap encId = (l.take lo).flatMap encId ++ (l.drop lo).flatMap encId := by rw [← List.flatMap_append, List.take_append_drop]
      rw [h6, List.take_append_of_le_length (by rw [flat_length encId_len, List.length_take]; omega), List.take_of_length_le (by rw [flat_length encId_len, List.length_take]; omega)]

theorem owns_get {base n cap g : Nat} {e : TypeId} {w : World} {l : List Id} (h : Owns base e encId 2 w (.slice (some ⟨g, 0, none⟩) n cap) l) (i : Nat) (hi : i < l.length) : w.cell? ⟨g, i * 2, none⟩ = some (.int .i64 l[i].r) ∧ w.cell? ⟨g, i * 2 + 1, none⟩ = some (.int .i64 l[i].n) := by
  obtain ⟨a, g', off, c, hv, _, hr, _⟩ := Owns.rd encId_len h
  have hne : l ≠ [] := by intro e; subst e; simp at hi
  have h2 := hr.some hne
  subst h2
  rcases h.2 with ⟨h0, _⟩ | ⟨g2, cap2, cur, hv2, _, hg, _, _, hsz, htake⟩
  · cases h0
  · cases hv
    cases hv2
    have c0 := RdI0 hr hi
    have c1 := RdI1 hr hi
    simp only [Nat.zero_add] at c0 c1
    exact ⟨c0, c1⟩
theorem owns_free {base n cap g : Nat} {e : TypeId} {w : World} {l : List Id} (h : Owns base e encId 2 w (.slice (some ⟨g, 0, none⟩) n cap) l) (o : Nat) : w.frozen? ⟨g, o, none⟩ = false := by
  rcases h.2 with ⟨h0, _⟩ | ⟨g2, cap2, cur, hv2, _, hg, _⟩
  · cases h0
  · cases hv2
    simp [World.frozen?, hg]
theorem take_all {l : List Id} {k : Nat} (h : l.length ≤ k) : l.take k = l := List.take_of_length_le h

/-- How far Compact has come: up to k all is looked at; i ids are kept. -/
structure Cmp (L R : List Id) (i k : Nat) : Prop where
  len : R.length = L.length
  kept : R.take i = cmpct (L.take k)
  cnt : i = (cmpct (L.take k)).length
  rest : ∀ j, k ≤ j + 1 → (hj : j < L.length) → R[j]? = some L[j]
theorem Cmp.skip {L R : List Id} {i k : Nat} (h : Cmp L R i (k + 1)) (hk : k + 1 < L.length) (he : L[k + 1] = L[k]) : Cmp L R i (k + 1 + 1) := by
  have h1 := cmpct_snoc L k hk
  rw [if_pos he] at h1
  exact ⟨h.len, by rw [h1]; exact h.kept, by rw [h1]; exact h.cnt, fun j hj hl => h.rest j (by omega) hl⟩
theorem Cmp.keep {L R : List Id} {i k : Nat} (h : Cmp L R i (k + 1)) (hk : k + 1 < L.length) (hi : i ≤ k) (he : L[k + 1] ≠ L[k]) : Cmp L (R.set i L[k + 1]) (i + 1) (k + 1 + 1) := by
  have h1 := cmpct_snoc L k hk
  rw [if_neg he] at h1
  have hl := h.len
  refine ⟨by rw [List.length_set]; exact hl, ?_, by rw [h1, List.length_append, ← h.cnt]; rfl, fun j hj hl => ?_⟩
  · rw [h1, ← h.kept, List.take_succ_eq_append_getElem (by rw [List.length_set]; omega), List.take_set_of_le (Nat.le_refl _)]
    simp
  · rw [List.getElem?_set_ne (by omega)]
    exact h.rest j (by omega) hl

theorem cmpct_small {L : List Id} (h : L.length < 2) : cmpct L = L := by
  rcases L with _ | ⟨a, _ | ⟨b, r⟩⟩
  · rfl
  · rfl
  · simp at h; omega
theorem index_ii (n cap g off : Nat) (x : Int) (i : Nat) (hx : x = i) (hi : i < n) (W : World) : (Instr.indexAt 40 (.slice (some ⟨g, off, none⟩) n cap) (.int .i64 x)).run Try.prog W = .ok (.pointer (some ⟨g, off + i * 2, none⟩)) W := by
  subst hx
  exact index_id n cap g off i hi W
set_option maxRecDepth 100000 in
set_option maxHeartbeats 1600000 in
theorem Compact_any (w : World) (base : Nat) (v : Value) (L : List Id) (hown : Owns base 28 encId 2 w v L) (hl : L.length ≤ 50000) :
    Calls Try.prog 62 #[v] w fun e w' => ∃ v', e = .returned v' ∧ Owns base 28 encId 2 w' v' (cmpct L) ∧ Keeps (fun i => v.ownBlock = some i) w w' := by
  rcases hown.2 with ⟨rfl, h0⟩ | ⟨g, cap, cur, rfl, hb0, hg, hcap, hmax, hsz, htake⟩
  · have : L = [] := List.eq_nil_of_length_eq_zero h0
    subst this
    go_enter Try.func62, Try.ntmps62
    go_wp2
    go_ret
    exact ⟨_, rfl, hown, Keeps.refl _ _⟩
  · clear hg htake hsz cur
    have HO := hid hown
    by_cases h2 : L.length < 2
    · go_enter Try.func62, Try.ntmps62
      go_wp2
      go_ret
      exact ⟨_, rfl, by rw [cmpct_small h2]; exact hown, Keeps.refl _ _⟩
    · go_enter Try.func62, Try.ntmps62
      go_wp2
      go_loopw [3] (fun s3 wr => ∃ k : Nat, k + 1 ≤ L.length ∧ s3 = .int .i64 ((k : Int) + 1) ∧ cmpct (L.take (k + 1)) = L.take (k + 1) ∧ Ext w wr) (fun s3 _ => L.length - (intOf s3).toNat)
      case atStart => exact ⟨0, by omega, rfl, cmpct_small (by rw [List.length_take]; omega), Ext.refl _⟩
      case round =>
        obtain ⟨k, hk, rfl, hc, hE⟩ := hrel
        have HE := hid hE
        by_cases hlt : k + 1 < L.length
        · have hx1 := index_ii L.length cap g 0 ((k : Int) + 1) (k + 1) (by omega) hlt
          have hx0 := index_ii L.length cap g 0 ((k : Int) + 1 - 1) k (by omega) (by omega)
          have hx0' := index_ii L.length cap g 0 (k : Int) k rfl (by omega)
          simp only [Nat.zero_add] at hx1 hx0 hx0'
          obtain ⟨c0, c1⟩ := owns_get (hown.ext hE) k (by omega)
          obtain ⟨d0, d1⟩ := owns_get (hown.ext hE) (k + 1) hlt
          have hq := run_eql_id L[k + 1] L[k]
          have hsnoc := cmpct_snoc L k hlt
          by_cases he : L[k + 1] = L[k]
          · rw [if_pos he] at hsnoc
            have hd : decide (L[k + 1] = L[k]) = true := by simpa using he
            rw [hd] at hq
            obtain ⟨n', hn'⟩ : ∃ n', L.length = k + 1 + n' := ⟨L.length - (k + 1), by omega⟩
            obtain ⟨cap', hcap'⟩ : ∃ cap', cap = k + 1 + cap' := ⟨cap - (k + 1), by omega⟩
            obtain ⟨s1, s2⟩ := cut_lo L.length cap g (k + 1) hlt hcap
            rw [show L.length - (k + 1) = n' by omega, show cap - (k + 1) = cap' by omega, show ((k + 1 : Nat) : Int) = (k : Int) + 1 by omega] at s1 s2
            have hcnt : (cmpct (L.take (k + 1 + 1))).length = k + 1 := by rw [hsnoc, hc, List.length_take]; omega
            have H0 : Hid (Cmp L L (k + 1) (k + 1 + 1)) := ⟨rfl, by rw [hsnoc, hc], hcnt.symm, fun j _ hj => List.getElem?_eq_getElem hj⟩
            clear hc he hd hsnoc hown hE
            go_wp2
            go_quiet (fail)
            go_wp2
            obtain ⟨w0, hw0⟩ : ∃ w0 : World, w0 = wr.drewN nq := ⟨_, rfl⟩
            have HE0 : Hid (Ext w w0) := by rw [hw0]; exact HE.out.drewN _
            rw [← hw0]
            clear hw0 HE c0 c1 d0 d1 s1 s2 hq hx0 hx0' hx1
            go_loopw [3, 5] (fun s3 s5 wr => ∃ (R : List Id) (i m : Nat), s3 = .int .i64 i ∧ s5 = .int .i64 ((m : Int) + 1) ∧ m + 1 ≤ n' ∧ i ≤ k + 1 + m ∧ Hid (Cmp L R i (k + 1 + m + 1)) ∧ Owns base 28 encId 2 wr (.slice (some ⟨g, 0, none⟩) L.length cap) R ∧ Keeps (· = g) w wr) (fun _ s5 _ => L.length - (intOf s5).toNat)
            case atStart => exact ⟨L, k + 1, 0, rfl, rfl, by omega, by omega, H0.out, HO.out.ext HE0.out, HE0.out.keeps⟩
            case round =>
              obtain ⟨R, i, m, rfl, rfl, hm, hi, HC, hown, hk2⟩ := hrel
              have hRl := HC.out.len
              by_cases hlt2 : m + 1 < n'
              · have hx1 := index_ii n' cap' g ((k + 1) * 2) ((m : Int) + 1) (m + 1) (by omega) hlt2
                have hx0 := index_ii n' cap' g ((k + 1) * 2) ((m : Int) + 1 - 1) m (by omega) (by omega)
                have hx0' := index_ii n' cap' g ((k + 1) * 2) (m : Int) m rfl (by omega)
                have hxi := index_id L.length cap g 0 i (by omega)
                simp only [Nat.zero_add] at hxi
                have e0 := HC.out.rest (k + 1 + m) (by omega) (by omega)
                have e1 := HC.out.rest (k + 1 + m + 1) (by omega) (by omega)
                obtain ⟨l0, e0⟩ := List.getElem?_eq_some_iff.1 e0
                obtain ⟨l1, e1⟩ := List.getElem?_eq_some_iff.1 e1
                obtain ⟨c0, c1⟩ := owns_get hown (k + 1 + m) l0
                obtain ⟨d0, d1⟩ := owns_get hown (k + 1 + m + 1) l1
                rw [e0, show (k + 1 + m) * 2 = (k + 1) * 2 + m * 2 by omega] at c0 c1
                rw [e1, show (k + 1 + m + 1) * 2 = (k + 1) * 2 + (m + 1) * 2 by omega] at d0 d1
                clear e0 e1 l0 l1
                have hq := run_neq_id L[k + 1 + m + 1] L[k + 1 + m]
                have HK := hid hk2
                have HW := hid hown
                by_cases he : L[k + 1 + m + 1] = L[k + 1 + m]
                · have hd : decide (L[k + 1 + m + 1] = L[k + 1 + m]) = true := by simpa using he
                  rw [hd] at hq
                  have HS : Hid (Cmp L R i (k + 1 + m + 1 + 1)) := HC.out.skip (by omega) he
                  clear he hd hown hk2
                  go_wp2
                  go_quiet (fail)
                  go_wp2
                  go_roundw
                  case rel => exact ⟨R, i, m + 1, rfl, by go_num, by omega, by omega, HS.out, HW.out.drewN _, HK.out.drewN _⟩
                  case measure => simp [intOf]; omega
                · have hd : decide (L[k + 1 + m + 1] = L[k + 1 + m]) = false := by simpa using he
                  rw [hd] at hq
                  have HS : Hid (Cmp L (R.set i L[k + 1 + m + 1]) (i + 1) (k + 1 + m + 1 + 1)) := HC.out.keep (by omega) hi he
                  have hiR : i < R.length := by omega
                  obtain ⟨z0, z1⟩ := owns_get hown i hiR
                  have f0 := owns_free hown
                  generalize L[k + 1 + m + 1] = x at *
                  clear he hd hown hk2
                  go_wp2
                  go_quiet (fail)
                  go_wp2
                  go_roundw
                  case rel => exact ⟨_, i + 1, m + 1, by go_num, by go_num, by omega, by omega, HS.out, (HW.out.drewN _).set hiR x, ((HK.out.drewN _).setCell (fun _ => rfl) _).setCell (fun _ => rfl) _⟩
                  case measure => simp [intOf]; omega
              · have hi2 : i < L.length := by omega
                obtain ⟨s1, s2⟩ := cut_lo L.length cap g i hi2 hcap
                obtain ⟨s3, s4⟩ := cut_hi L.length cap g i (by omega) hcap
                obtain ⟨W', hW', hown', hk'⟩ := hown.clear hRl hi2
                have HF := hid (show R.take i = cmpct L by rw [HC.out.kept, take_all (by omega)])
                have HK := hid (hk2.trans hk' (fun _ _ h => h))
                have HW := hid hown'
                clear hown' hk' hk2 hown
                have hge : ¬ ((m : Int) + 1 < (n' : Int)) := by omega
                have HN := hid hn'
                clear hn' hcap' hcnt hRl
                go_wp2
                go_ret
                exact ⟨_, rfl, by rw [← HF.out]; exact HW.out, HK.out.mono (fun _ _ h => by rw [h]; rfl)⟩
          · rw [if_neg he] at hsnoc
            have hd : decide (L[k + 1] = L[k]) = false := by simpa using he
            rw [hd] at hq
            have H0 := hid (show cmpct (L.take (k + 1 + 1)) = L.take (k + 1 + 1) by rw [hsnoc, hc, ← List.take_succ_eq_append_getElem hlt])
            clear hc he hd hsnoc hown hE
            go_wp2
            go_quiet (fail)
            go_wp2
            go_roundw
            case rel => exact ⟨k + 1, by omega, by go_num, H0.out, HE.out.drewN _⟩
            case measure => simp [intOf]; omega
        · have HC := hid (show cmpct L = L by rw [← take_all (l := L) (k := k + 1) (by omega)]; exact hc)
          clear hown hE hc
          go_wp2
          go_ret
          exact ⟨_, rfl, by rw [HC.out]; exact HO.out.ext HE.out, HE.out.keeps⟩

theorem sort_order (w : World) (base : Nat) (v : Value) (l : List Id) (hown : Owns base 28 encId 2 w v l) (hl : l.length ≤ 1000000) :
    Calls Try.prog 38 #[v, .func (.func 53) #[] #[]] w fun e' w' => e' = .returned (.tuple #[]) ∧ Owns base 28 encId 2 w' v (sortI l) ∧ Keeps (fun i => v.ownBlock = some i) w w' := by
  have eg : ∀ args w, (callFunc 53 args).run Try.prog w = .ok (.enter 53 args) w := enters_of Try.func53 (by kernel_rfl) rfl
  exact sort_owns Try.sortId 2 Try.isAgg28 Try.sizeOf28 encId encId_len oneId orderId swoOrder totOrder 53 #[] eg w base 28 v l hown hl (fun W _ x y => order_any x y W)

set_option maxRecDepth 100000 in
set_option maxHeartbeats 800000 in
theorem Set_ids (w : World) (a : Option Addr) (g off cap : Nat) (l : List Id) (h : RdS encId 2 w a g off l) (hl : l.length ≤ 50000) :
    Calls Try.prog 47 #[.slice a l.length cap] w fun e w' => ∃ v, e = .returned v ∧ Owns w.heap.size 28 encId 2 w' v (setR l) ∧ Below w.heap.size w w' := by
  have hset := set_eq l
  have hsl : (sortI l).length = l.length := (sortI_perm l).length_eq
  have HS := hid hset
  have HL := hid hsl
  clear hset hsl
  go_enter Try.func47, Try.ntmps47
  go_wp2_with fail
  refine (Clone_any w a g off cap l h hl).mono ?_
  rintro e w1 ⟨v1, rfl, hown1, hb1⟩
  have HB := hid hb1
  clear hb1 h
  go_wp2_with fail
  refine (sort_order w1 _ v1 l hown1 (by omega)).mono ?_
  rintro e w2 ⟨rfl, hown2, hk2⟩
  have hb2 : Below w.heap.size w w2 := HB.out.trans (hk2.below HB.out.size (fun k hk => (hown1.lt k hk).1))
  have HB2 := hid hb2
  clear hk2 hown1 HB hb2
  go_wp2_with fail
  refine (Compact_any w2 _ v1 (sortI l) hown2 (by rw [HL.out]; omega)).mono ?_
  rintro e w3 ⟨v3, rfl, hown3, hk3⟩
  have hb3 : Below w.heap.size w w3 := HB2.out.trans (hk3.below HB2.out.size (fun k hk => (hown2.lt k hk).1))
  have HB3 := hid hb3
  have HO := hid hown3
  clear hk3 hown2 hown3 HB2 hb3
  go_wp2
  go_ret
  exact ⟨_, rfl, by rw [← HS.out]; exact HO.out, HB3.out⟩
end Go.Proofs.Ytlepfohhfngndaa
