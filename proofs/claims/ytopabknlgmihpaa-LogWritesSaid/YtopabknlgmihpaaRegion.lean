/- A region that draws its order, with calls that change the world: what reads the same in every world of a class is taken first; calls come one by one. -/
import Derived.RegionTactic
import Derived.RegionCalls
import Derived.NoCompiler
import Derived.WalkKit
import Derived.StillTailTactics
namespace Go.Proofs.Ytopabknlgmihpaa
open Go

section
variable {P : Program} {ops : Array Oper} {md : Region.Mode} {C : World → Prop} {Q : Exit → Act → World → Prop}

/-- Whatever order is picked; the world stays in the class. -/
def wpAnyC (P : Program) (md : Region.Mode) (ops : Array Oper) (C : World → Prop) (Q : Exit → Act → World → Prop) : Nat → Array Bool → Act → World → Prop
  | 0, listed, a, w => Region.ready md ops listed = [] ∧ Q .normal a w
  | n + 1, listed, a, w => (Region.ready md ops listed = [] → Q .normal a w) ∧ ∀ i ∈ Region.ready md ops listed, wpOp P ops Q i (fun a' w' => C w' ∧ wpAnyC P md ops C Q n (listed.setIfInBounds i true) a' w') a w
theorem wpAnyC_any : ∀ (n : Nat) (listed : Array Bool) (a : Act) (w : World), wpAnyC P md ops C Q n listed a w → wpAny P md ops Q n listed a w
  | 0, _, _, _, h => h
  | n + 1, _, _, _, h => ⟨h.1, fun i hi => wpOp_mono (fun a' w' h' => wpAnyC_any n _ a' w' h'.2) (h.2 i hi)⟩

/-- In every world of the class o yields v, and leaves the world. -/
def YieldsC (P : Program) (ops : Array Oper) (C : World → Prop) (o : Oper) (v : Value) (a : Act) : Prop :=
  (Region.wanted o (yielded ops a.tmps) = true ∧ ∀ w, C w → (execOp a.eval o).run P w = .ok (.value v) w) ∨ (Region.wanted o (yielded ops a.tmps) = false ∧ v = undef)
theorem YieldsC.op {i : Nat} {o : Oper} {v : Value} {a : Act} {w : World} {K : Act → World → Prop} (hi : ops[i]? = some o) (hy : YieldsC P ops C o v a) (hw : C w) (h : K (a.put o.dst v) w) : wpOp P ops Q i K a w := by
  unfold wpOp
  simp only [hi]
  rcases hy with ⟨h1, h2⟩ | ⟨h1, rfl⟩
  · rw [if_pos h1]
    left
    unfold Oper.wp
    rw [h2 w hw]
    exact h
  · rw [if_neg (by rw [h1]; simp)]
    exact h

/-- What an operation's run asks looks at a frame by its operands alone: two operations apart change places. -/
theorem wpOp_swap {j : Nat} {oi oj : Oper} {v : Value} (hj : ops[j]? = some oj) (hap : oi.apart ops oj = true) (hsi : ∀ cs b, oi.op ≠ .select cs b) (hsj : ∀ cs b, oj.op ≠ .select cs b)
    (hQ : ∀ c a w, Q (.panic c) (a.put oi.dst v) w → Q (.panic c) a w) {K : Act → World → Prop} {a : Act} {w : World} (hy : YieldsC P ops C oi v a) (h : wpOp P ops Q j K (a.put oi.dst v) w) :
    wpOp P ops Q j (fun a' w' => YieldsC P ops C oi v a' ∧ K (a'.put oi.dst v) w') a w := by
  obtain ⟨p1, p2, p3⟩ := Oper.apart_spec hap
  have still : ∀ u, YieldsC P ops C oi v (a.put oj.dst u) := fun u => by
    unfold YieldsC
    rw [execOp_put oi hsi a oj.dst u p3, wanted_put oi a oj.dst u p3]
    exact hy
  have fin : ∀ u w', K ((a.put oi.dst v).put oj.dst u) w' → YieldsC P ops C oi v (a.put oj.dst u) ∧ K ((a.put oj.dst u).put oi.dst v) w' := fun u w' hk => ⟨still u, by rw [← Act.put_comm a v u p2]; exact hk⟩
  unfold wpOp at h ⊢
  simp only [hj] at h ⊢
  rw [wanted_put oj a oi.dst v p1] at h
  by_cases hw : Region.wanted oj (yielded ops a.tmps) = true
  · rw [if_pos hw] at h ⊢
    rcases h with h | ⟨h1, h2⟩
    · left
      unfold Oper.wp at h ⊢
      rw [execOp_put oj hsj a oi.dst v p1] at h
      revert h
      generalize (execOp a.eval oj).run P w = r
      intro h
      match r, h with
      | .ok (.value u) w', h => exact fin u w' h
      | .ok .skip w', h => exact fin undef w' h
      | .ok (.defer d) w', h =>
        simp only [Oper.upon] at h ⊢
        refine ⟨?_, ?_⟩
        · have := still undef
          unfold YieldsC at this ⊢
          have e1 : (({ a with defers := d :: a.defers } : Act).put oj.dst undef).eval = (a.put oj.dst undef).eval := by cases oj.dst <;> rfl
          have e2 : (({ a with defers := d :: a.defers } : Act).put oj.dst undef).tmps = (a.put oj.dst undef).tmps := by cases oj.dst <;> rfl
          rw [e1, e2]
          exact this
        · rw [← Act.put_comm _ v undef p2, ← Act.put_defers]
          exact h
      | .ok (.enter f args) w', h =>
        refine Calls.mono h fun e w'' he => ?_
        cases e with
        | returned u => exact fin u w'' he
        | panicked c => exact hQ _ _ _ he
        | outgrown => exact he
      | .ok (.row row args) w', h => exact Rows.mono h fun u w'' he => fin u w'' he
      | .halt x w', h =>
        revert h
        cases x <;> simp only [Oper.upon] <;> intro h <;> first | exact hQ _ _ _ h | exact h
    · right
      refine ⟨?_, h2⟩
      unfold Oper.asks at h1 ⊢
      rw [execOp_put oj hsj a oi.dst v p1] at h1
      exact h1
  · rw [if_neg hw] at h ⊢
    exact fin undef w h

theorem takeC_aux {i : Nat} {oi : Oper} {v : Value} (hi : ops[i]? = some oi) (hsel : ∀ (j : Nat) (o : Oper) cs b, ops[j]? = some o → o.op ≠ .select cs b) (hQ : ∀ c a w, Q (.panic c) (a.put oi.dst v) w → Q (.panic c) a w) :
    ∀ (n : Nat) (listed : Array Bool) (a : Act) (w : World), C w →
      (∀ j oj, ops[j]? = some oj → j ≠ i → listed.getD j true = false → (∀ e ∈ oj.after, Region.binds md e = true → e.on ≠ i) → oi.apart ops oj = true) →
      i ∈ Region.ready md ops listed → YieldsC P ops C oi v a → wpAnyC P md ops C Q n (listed.setIfInBounds i true) (a.put oi.dst v) w → wpAnyC P md ops C Q (n + 1) listed a w := by
  intro n
  induction n with
  | zero =>
    intro listed a w hC _ hr hy H
    refine ⟨fun h => absurd hr (by rw [h]; simp), fun j hj => ?_⟩
    by_cases hji : j = i
    · subst hji; exact hy.op hi hC ⟨hC, H⟩
    · exact absurd (ready_mono hj hji) (by rw [H.1]; simp)
  | succ n ih =>
    intro listed a w hC hfree hr hy H
    refine ⟨fun h => absurd hr (by rw [h]; simp), fun j hj => ?_⟩
    by_cases hji : j = i
    · subst hji; exact hy.op hi hC ⟨hC, H⟩
    · obtain ⟨hjun, oj, hoj, hall⟩ := mem_ready.1 hj
      have hun : listed.getD i false = false := by
        have h0 := (mem_ready.1 hr).1
        by_cases hlt : i < listed.size
        · simp [hlt] at h0 ⊢; exact h0
        · simp [hlt]
      have hap := hfree j oj hoj hji hjun (fun e he hb heq => by
        have := hall e he hb
        rw [heq, hun] at this
        cases this)
      refine wpOp_mono (fun a' w' h3 => ⟨h3.2.1, ih _ a' w' h3.2.1 (fun k ok hk hki hu hno => hfree k ok hk hki ?_ hno) (ready_mono hr (Ne.symm hji)) h3.1 ?_⟩)
        (wpOp_swap hoj hap (fun cs b => hsel i oi cs b hi) (fun cs b => hsel j oj cs b hoj) hQ hy (H.2 j (ready_mono hj hji)))
      · by_cases hjk : j = k
        · rw [← hjk]; exact hjun
        · rwa [getD_set_ne true hjk] at hu
      · rw [Array.setIfInBounds_comm _ _ hji]
        exact h3.2.2
/-- What reads the same in every world of the class is taken first. -/
theorem takeC {i : Nat} {oi : Oper} {v : Value} {n : Nat} {listed : Array Bool} {a : Act} {w : World} (hi : ops[i]? = some oi) (hs : Region.noSelect ops = true) (hf : Region.free md ops listed i = true) (hr : (Region.ready md ops listed).contains i = true)
    (hQ : ∀ c a w, Q (.panic c) (a.put oi.dst v) w → Q (.panic c) a w) (hC : C w) (hy : YieldsC P ops C oi v a)
    (h : ∀ K : Act → World → Prop, (∀ a' w', wpAnyC P md ops C Q n (listed.setIfInBounds i true) a' w' → K a' w') → K (a.put oi.dst v) w) : wpAnyC P md ops C Q (n + 1) listed a w :=
  takeC_aux hi (Region.noSelect_spec hs) hQ n listed a w hC (Region.free_spec hi hf) (by simpa using hr) hy (h _ fun _ _ h => h)
/-- One operation alone may come up. -/
theorem oneC {k : Nat} {n : Nat} {listed : Array Bool} {a : Act} {w : World} (hr : Region.ready md ops listed = [k])
    (h : ∀ K : Act → World → Prop, (∀ a' w', C w' → wpAnyC P md ops C Q n (listed.setIfInBounds k true) a' w' → K a' w') → wpOp P ops Q k K a w) : wpAnyC P md ops C Q (n + 1) listed a w := by
  refine ⟨fun h0 => absurd (hr.symm.trans h0) (by simp), fun i hi => ?_⟩
  rw [hr, List.mem_singleton] at hi
  subst hi
  exact h _ (fun a' w' h1 h2 => ⟨h1, h2⟩)
/-- A call of a Go function comes up. -/
theorem callC {k : Nat} {o : Oper} {n : Nat} {listed : Array Bool} {a : Act} {w : World} (hr : Region.ready md ops listed = [k]) (hk : ops[k]? = some o) (hw : Region.wanted o (yielded ops a.tmps) = true)
    (h : ∀ K : Act → World → Prop, (∀ a' w', C w' → wpAnyC P md ops C Q n (listed.setIfInBounds k true) a' w' → K a' w') → o.wp P a w K Q) : wpAnyC P md ops C Q (n + 1) listed a w :=
  oneC hr fun K hK => by
    unfold wpOp
    simp only [hk]
    rw [if_pos hw]
    exact Or.inl (h K hK)
theorem doneC {n : Nat} {listed : Array Bool} {a : Act} {w : World} (hr : Region.ready md ops listed = []) (h : Q .normal a w) : wpAnyC P md ops C Q n listed a w := by
  cases n with
  | zero => exact ⟨hr, h⟩
  | succ n => exact ⟨fun _ => h, fun i hi => absurd hi (by rw [hr]; simp)⟩
theorem wp_region_C (C : World → Prop) {id : Nat} {a : Act} {w : World} (hm : P.follows .mixedOrders = true) (h : wpAnyC P .any ops C Q ops.size (Array.replicate ops.size false) a w.drew) : (Code.region id ops true).wp P Q a w :=
  wp_region_any hm (wpAnyC_any _ _ _ _ h)
end
end Go.Proofs.Ytopabknlgmihpaa
