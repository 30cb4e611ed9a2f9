/- A region that draws its order and ends in an operation that may leave the class of worlds (a store to what the region has read): as XRegion, but the class is asked for behind every operation but that one. -/
import Derived.Test.YtopabknlgmihpaaRegion
namespace Go.Proofs.Ytopabknlgmihpaa
open Go

/-- From p on, each waits for the one before it, none of them lies in listed, and the last is t. -/
def chainB (md : Region.Mode) (ops : Array Oper) (t : Nat) (listed : Array Bool) : Nat → Nat → Bool
  | 0, _ => false
  | n + 1, p => !(listed.getD p false) && (match ops.toList.findIdx? (fun o => o.after.any (fun e => e.on == p && Region.binds md e)) with
    | none => false
    | some j => j == t || chainB md ops t listed n j)
theorem next_waits {md : Region.Mode} {ops : Array Oper} {p j : Nat} {listed : Array Bool} (h : ops.toList.findIdx? (fun o => o.after.any (fun e => e.on == p && Region.binds md e)) = some j) (hp : listed.getD p false = false) : j ∉ Region.ready md ops listed := fun hj => by
  obtain ⟨hlt, h1, _⟩ := List.findIdx?_eq_some_iff_getElem.1 h
  obtain ⟨_, o, ho, hall⟩ := mem_ready.1 hj
  have ho2 : ops.toList[j] = o := by
    have : ops.toList[j]? = some o := by simpa using ho
    exact (List.getElem?_eq_some_iff.1 this).2
  rw [ho2, Array.any_eq_true'] at h1
  obtain ⟨e, he, h2⟩ := h1
  simp only [Bool.and_eq_true, beq_iff_eq] at h2
  have := hall e he h2.2
  rw [h2.1, hp] at this
  cases this
theorem chain_never {md : Region.Mode} {ops : Array Oper} {t : Nat} {listed : Array Bool} : ∀ (n p : Nat), chainB md ops t listed n p = true → t ∉ Region.ready md ops listed
  | 0, _, h => by cases h
  | n + 1, p, h => by
    unfold chainB at h
    rw [Bool.and_eq_true] at h
    obtain ⟨h1, h2⟩ := h
    have hp : listed.getD p false = false := by simpa using h1
    split at h2
    · cases h2
    · rename_i j hj
      rw [Bool.or_eq_true] at h2
      rcases h2 with h2 | h2
      · have := next_waits hj hp
        rw [beq_iff_eq] at h2
        rw [← h2]
        exact this
      · exact chain_never n j h2
theorem chain_step {md : Region.Mode} {ops : Array Oper} {t x : Nat} {listed : Array Bool} (hx : x ∈ Region.ready md ops listed) : ∀ (n p : Nat), p ≠ x → chainB md ops t listed n p = true → chainB md ops t (listed.setIfInBounds x true) n p = true
  | 0, _, _, h => by cases h
  | n + 1, p, hpx, h => by
    unfold chainB at h ⊢
    rw [Bool.and_eq_true] at h ⊢
    obtain ⟨h1, h2⟩ := h
    have hp : listed.getD p false = false := by simpa using h1
    refine ⟨by rw [getD_set_ne false (Ne.symm hpx)]; exact h1, ?_⟩
    split at h2
    · cases h2
    · rename_i j hj
      rw [Bool.or_eq_true] at h2 ⊢
      rcases h2 with h2 | h2
      · exact Or.inl h2
      · exact Or.inr (chain_step hx n j (fun e => next_waits hj hp (e ▸ hx)) h2)
section
variable {P : Program} {ops : Array Oper} {md : Region.Mode} {C : World → Prop} {t : Nat} {Q : Exit → Act → World → Prop}
/-- Whatever order is picked; the world stays in the class, but for t. -/
def wpAnyT (P : Program) (md : Region.Mode) (ops : Array Oper) (C : World → Prop) (t : Nat) (Q : Exit → Act → World → Prop) : Nat → Array Bool → Act → World → Prop
  | 0, listed, a, w => Region.ready md ops listed = [] ∧ Q .normal a w
  | n + 1, listed, a, w => (Region.ready md ops listed = [] → Q .normal a w) ∧ ∀ i ∈ Region.ready md ops listed, wpOp P ops Q i (fun a' w' => (i ≠ t → C w') ∧ wpAnyT P md ops C t Q n (listed.setIfInBounds i true) a' w') a w
theorem wpAnyT_any : ∀ (n : Nat) (listed : Array Bool) (a : Act) (w : World), wpAnyT P md ops C t Q n listed a w → wpAny P md ops Q n listed a w
  | 0, _, _, _, h => h
  | n + 1, _, _, _, h => ⟨h.1, fun i hi => wpOp_mono (fun a' w' h' => wpAnyT_any n _ a' w' h'.2) (h.2 i hi)⟩
theorem takeT_aux {i m : Nat} {oi : Oper} {v : Value} (hi : ops[i]? = some oi) (hsel : ∀ (j : Nat) (o : Oper) cs b, ops[j]? = some o → o.op ≠ .select cs b) (hQ : ∀ c a w, Q (.panic c) (a.put oi.dst v) w → Q (.panic c) a w) :
    ∀ (n : Nat) (listed : Array Bool) (a : Act) (w : World), C w → chainB md ops t listed m i = true →
      (∀ j oj, ops[j]? = some oj → j ≠ i → listed.getD j true = false → (∀ e ∈ oj.after, Region.binds md e = true → e.on ≠ i) → oi.apart ops oj = true) →
      i ∈ Region.ready md ops listed → YieldsC P ops C oi v a → wpAnyT P md ops C t Q n (listed.setIfInBounds i true) (a.put oi.dst v) w → wpAnyT P md ops C t Q (n + 1) listed a w := by
  intro n
  induction n with
  | zero =>
    intro listed a w hC _ _ hr hy H
    refine ⟨fun h => absurd hr (by rw [h]; simp), fun j hj => ?_⟩
    by_cases hji : j = i
    · subst hji; exact hy.op hi hC ⟨fun _ => hC, H⟩
    · exact absurd (ready_mono hj hji) (by rw [H.1]; simp)
  | succ n ih =>
    intro listed a w hC hS hfree hr hy H
    refine ⟨fun h => absurd hr (by rw [h]; simp), fun j hj => ?_⟩
    by_cases hji : j = i
    · subst hji; exact hy.op hi hC ⟨fun _ => hC, H⟩
    · have hjt : j ≠ t := fun e => chain_never m i hS (e ▸ hj)
      obtain ⟨hjun, oj, hoj, hall⟩ := mem_ready.1 hj
      have hun : listed.getD i false = false := by
        have h0 := (mem_ready.1 hr).1
        by_cases hlt : i < listed.size
        · simp [hlt] at h0 ⊢; exact h0
        · simp [hlt]
      have hap := hfree j oj hoj hji hjun (fun e he hb heq => by
        have := hall e he hb
        rw [heq, hun] at this
        cases this)
      refine wpOp_mono (fun a' w' h3 => ⟨fun _ => h3.2.1 hjt, ih _ a' w' (h3.2.1 hjt) (chain_step hj m i (Ne.symm hji) hS) (fun k ok hk hki hu hno => hfree k ok hk hki ?_ hno) (ready_mono hr (Ne.symm hji)) h3.1 ?_⟩)
        (wpOp_swap hoj hap (fun cs b => hsel i oi cs b hi) (fun cs b => hsel j oj cs b hoj) hQ hy (H.2 j (ready_mono hj hji)))
      · by_cases hjk : j = k
        · rw [← hjk]; exact hjun
        · rwa [getD_set_ne true hjk] at hu
      · rw [Array.setIfInBounds_comm _ _ hji]
        exact h3.2.2
/-- What reads the same in every world of the class is taken first. -/
theorem takeT {i : Nat} {oi : Oper} {v : Value} {n : Nat} {listed : Array Bool} {a : Act} {w : World} (hi : ops[i]? = some oi) (hs : Region.noSelect ops = true) (hf : Region.free md ops listed i = true) (hr : (Region.ready md ops listed).contains i = true)
    (hsh : chainB md ops t listed ops.size i = true)
    (hQ : ∀ c a w, Q (.panic c) (a.put oi.dst v) w → Q (.panic c) a w) (hC : C w) (hy : YieldsC P ops C oi v a)
    (h : ∀ K : Act → World → Prop, (∀ a' w', wpAnyT P md ops C t Q n (listed.setIfInBounds i true) a' w' → K a' w') → K (a.put oi.dst v) w) : wpAnyT P md ops C t Q (n + 1) listed a w :=
  takeT_aux hi (Region.noSelect_spec hs) hQ n listed a w hC hsh (Region.free_spec hi hf) (by simpa using hr) hy (h _ fun _ _ h => h)
/-- A call of a Go function comes up, or what else is met by a law. -/
theorem callT {k : Nat} {o : Oper} {n : Nat} {listed : Array Bool} {a : Act} {w : World} (hr : Region.ready md ops listed = [k]) (hk : ops[k]? = some o) (hw : Region.wanted o (yielded ops a.tmps) = true)
    (h : ∀ K : Act → World → Prop, (∀ a' w', C w' → wpAnyT P md ops C t Q n (listed.setIfInBounds k true) a' w' → K a' w') → o.wp P a w K Q) : wpAnyT P md ops C t Q (n + 1) listed a w := by
  refine ⟨fun h0 => absurd (hr.symm.trans h0) (by simp), fun i hi => ?_⟩
  rw [hr, List.mem_singleton] at hi
  subst hi
  unfold wpOp
  simp only [hk]
  rw [if_pos hw]
  exact Or.inl (h _ (fun a' w' h1 h2 => ⟨fun _ => h1, h2⟩))
/-- The operation that may leave the class. -/
theorem lastT {o : Oper} {n : Nat} {listed : Array Bool} {a : Act} {w : World} (hr : Region.ready md ops listed = [t]) (hk : ops[t]? = some o) (hw : Region.wanted o (yielded ops a.tmps) = true)
    (h : ∀ K : Act → World → Prop, (∀ a' w', wpAnyT P md ops C t Q n (listed.setIfInBounds t true) a' w' → K a' w') → o.wp P a w K Q) : wpAnyT P md ops C t Q (n + 1) listed a w := by
  refine ⟨fun h0 => absurd (hr.symm.trans h0) (by simp), fun i hi => ?_⟩
  rw [hr, List.mem_singleton] at hi
  subst hi
  unfold wpOp
  simp only [hk]
  rw [if_pos hw]
  exact Or.inl (h _ (fun a' w' h2 => ⟨fun h0 => absurd rfl h0, h2⟩))
theorem doneT {n : Nat} {listed : Array Bool} {a : Act} {w : World} (hr : Region.ready md ops listed = []) (h : Q .normal a w) : wpAnyT P md ops C t Q n listed a w := by
  cases n with
  | zero => exact ⟨hr, h⟩
  | succ n => exact ⟨fun _ => h, fun i hi => absurd hi (by rw [hr]; simp)⟩
theorem wp_region_T (C : World → Prop) (t : Nat) {id : Nat} {a : Act} {w : World} (hm : P.follows .mixedOrders = true) (h : wpAnyT P .any ops C t Q ops.size (Array.replicate ops.size false) a w.drew) : (Code.region id ops true).wp P Q a w :=
  wp_region_any hm (wpAnyT_any _ _ _ _ h)
end
end Go.Proofs.Ytopabknlgmihpaa
