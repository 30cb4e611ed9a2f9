/- As XRegionT, inside a fence, in a round of a range over a function or in none. -/
import Derived.Test.YtopabknlgmihpaaRegionT
import Derived.OrdersIn
import Derived.TacticsIn
namespace Go.Proofs.Ytopabknlgmihpaa
open Go

/-- No operation defers. -/
def noDefer (ops : Array Oper) : Bool := ops.toList.all (fun o => match o.op with | .defer _ => false | _ => true)
theorem noDefer_spec {ops : Array Oper} (h : noDefer ops = true) {i : Nat} {o : Oper} (ho : ops[i]? = some o) : ∀ c, o.op ≠ .defer c := fun c e => by
  unfold noDefer at h
  rw [List.all_eq_true] at h
  have hm : o ∈ ops.toList := List.mem_of_getElem? (by simpa using ho)
  have := h o hm
  rw [e] at this
  cases this
section
variable {F : Fence} {n : Nat} {P : Program} {ops : Array Oper} {md : Region.Mode} {C : World → Prop} {t : Nat} {Q : Exit → Act → World → Prop}
def YieldsI (P : Program) (ops : Array Oper) (C : World → Prop) (o : Oper) (v : Value) (a : Act) : Prop := YieldsC P ops C o v a ∧ ∀ w, o.about P w a.eval = none
theorem YieldsI.of_same {o : Oper} {v : Value} {a a' : Act} (hy : YieldsI P ops C o v a) (he : execOp a'.eval o = execOp a.eval o)
    (hw : Region.wanted o (yielded ops a'.tmps) = Region.wanted o (yielded ops a.tmps)) (hb : ∀ w, o.about P w a'.eval = o.about P w a.eval) : YieldsI P ops C o v a' := by
  refine ⟨?_, fun w => by rw [hb w]; exact hy.2 w⟩
  have := hy.1
  unfold YieldsC at this ⊢
  rw [he, hw]
  exact this
theorem YieldsI.op {i : Nat} {o : Oper} {v : Value} {a : Act} {w : World} {K : Act → World → Prop} (hnd : noDefer ops = true) (hi : ops[i]? = some o) (hy : YieldsI P ops C o v a) (hw : C w) (h : K (a.put o.dst v) w) : wpOpIn F n P ops Q i K a w := by
  unfold wpOpIn
  simp only [hi]
  have hab : ∀ f, o.about P w a.eval = some f → F.fn f := fun f hf => by rw [hy.2 w] at hf; cases hf
  rcases hy.1 with ⟨h1, h2⟩ | ⟨h1, rfl⟩
  · rw [if_pos h1]
    unfold Oper.wpIn
    rw [Oper.semAt_eq _ _ _ (noDefer_spec hnd hi), h2 w hw]
    exact ⟨hab, h⟩
  · rw [if_neg (by rw [h1]; simp)]
    exact ⟨hab, h⟩
theorem wpOpIn_swap {j : Nat} {oi oj : Oper} {v : Value} (hnd : noDefer ops = true) (hj : ops[j]? = some oj) (hap : oi.apart ops oj = true) (hsi : ∀ cs b, oi.op ≠ .select cs b) (hsj : ∀ cs b, oj.op ≠ .select cs b)
    (hQ : ∀ c a w, Q (.panic c) (a.put oi.dst v) w → Q (.panic c) a w) {K : Act → World → Prop} {a : Act} {w : World} (hy : YieldsI P ops C oi v a) (h : wpOpIn F n P ops Q j K (a.put oi.dst v) w) :
    wpOpIn F n P ops Q j (fun a' w' => YieldsI P ops C oi v a' ∧ K (a'.put oi.dst v) w') a w := by
  obtain ⟨h1, h2, h3⟩ := Oper.apart_spec hap
  have hse : ∀ ρ, oj.semAt F.round ρ = execOp ρ oj := fun ρ => Oper.semAt_eq _ _ _ (noDefer_spec hnd hj)
  have keep : ∀ (a : Act), YieldsI P ops C oi v a → ∀ u, YieldsI P ops C oi v (a.put oj.dst u) := fun a hy u =>
    hy.of_same (execOp_put oi hsi a oj.dst u h3) (wanted_put oi a oj.dst u h3) (fun w => about_put oi w a oj.dst u h3)
  have keepD : ∀ d, YieldsI P ops C oi v { a with defers := d :: a.defers } := fun d => hy.of_same rfl rfl (fun _ => rfl)
  unfold wpOpIn at *
  simp only [hj] at *
  rw [wanted_put oj a oi.dst v h1, about_put oj w a oi.dst v h1] at h
  split
  · rename_i hw
    simp only [hw, if_true] at h
    unfold Oper.wpIn at *
    rw [about_put oj w a oi.dst v h1] at h
    refine ⟨h.1, ?_⟩
    have h := h.2
    rw [hse, execOp_put oj hsj a oi.dst v h1] at h
    rw [hse]
    generalize (execOp a.eval oj).run P w = r at *
    cases r with
    | ok x w' =>
      cases x <;> simp only [Oper.uponIn] at h ⊢
      case value u => exact ⟨keep a hy u, by rw [← Act.put_comm a v u h2]; exact h⟩
      case skip => exact ⟨keep a hy _, by rw [← Act.put_comm a v undef h2]; exact h⟩
      case defer d =>
        refine ⟨keep _ (keepD d) _, ?_⟩
        rw [← Act.put_comm _ v undef h2, ← Act.put_defers]
        exact h
      case enter f args =>
        refine ⟨h.1, CallsIn.mono h.2 fun e w'' he => ?_⟩
        cases e with
        | returned u => exact ⟨keep a hy u, by rw [← Act.put_comm a v u h2]; exact he⟩
        | panicked c => exact hQ _ _ _ he
        | outgrown => exact he
      case row row args => exact ⟨h.1, RowsIn.mono h.2 fun u w'' he => ⟨keep a hy u, by rw [← Act.put_comm a v u h2]; exact he⟩⟩
      case round l f tmps assign body =>
        refine ⟨h.1, RoundIn.mono h.2 fun e w'' he => ?_⟩
        cases e with
        | returned u => exact ⟨keep a hy u, by rw [← Act.put_comm a v u h2]; exact he⟩
        | panicked c => exact hQ _ _ _ he
        | outgrown => exact he
    | halt x w' =>
      cases x <;> simp only [Oper.uponIn] at h ⊢
      case panic u => exact hQ _ _ _ h
  · rename_i hw
    simp only [hw] at h
    exact ⟨h.1, keep a hy _, by rw [← Act.put_comm a v undef h2]; exact h.2⟩
def wpAnyI (F : Fence) (n : Nat) (P : Program) (md : Region.Mode) (ops : Array Oper) (C : World → Prop) (t : Nat) (Q : Exit → Act → World → Prop) : Nat → Array Bool → Act → World → Prop
  | 0, listed, a, w => Region.ready md ops listed = [] ∧ Q .normal a w
  | k + 1, listed, a, w => (Region.ready md ops listed = [] → Q .normal a w) ∧ ∀ i ∈ Region.ready md ops listed, wpOpIn F n P ops Q i (fun a' w' => (i ≠ t → C w') ∧ wpAnyI F n P md ops C t Q k (listed.setIfInBounds i true) a' w') a w
theorem wpAnyI_any : ∀ (k : Nat) (listed : Array Bool) (a : Act) (w : World), wpAnyI F n P md ops C t Q k listed a w → wpAnyIn F n P md ops Q k listed a w
  | 0, _, _, _, h => h
  | k + 1, _, _, _, h => ⟨h.1, fun i hi => wpOpIn_mono (fun a' w' h' => wpAnyI_any k _ a' w' h'.2) (h.2 i hi)⟩
theorem takeI_aux {i m : Nat} {oi : Oper} {v : Value} (hnd : noDefer ops = true) (hi : ops[i]? = some oi) (hsel : ∀ (j : Nat) (o : Oper) cs b, ops[j]? = some o → o.op ≠ .select cs b) (hQ : ∀ c a w, Q (.panic c) (a.put oi.dst v) w → Q (.panic c) a w) :
    ∀ (k : Nat) (listed : Array Bool) (a : Act) (w : World), C w → chainB md ops t listed m i = true →
      (∀ j oj, ops[j]? = some oj → j ≠ i → listed.getD j true = false → (∀ e ∈ oj.after, Region.binds md e = true → e.on ≠ i) → oi.apart ops oj = true) →
      i ∈ Region.ready md ops listed → YieldsI P ops C oi v a → wpAnyI F n P md ops C t Q k (listed.setIfInBounds i true) (a.put oi.dst v) w → wpAnyI F n P md ops C t Q (k + 1) listed a w := by
  intro k
  induction k with
  | zero =>
    intro listed a w hC _ _ hr hy H
    refine ⟨fun h => absurd hr (by rw [h]; simp), fun j hj => ?_⟩
    by_cases hji : j = i
    · subst hji; exact hy.op hnd hi hC ⟨fun _ => hC, H⟩
    · exact absurd (ready_mono hj hji) (by rw [H.1]; simp)
  | succ k ih =>
    intro listed a w hC hS hfree hr hy H
    refine ⟨fun h => absurd hr (by rw [h]; simp), fun j hj => ?_⟩
    by_cases hji : j = i
    · subst hji; exact hy.op hnd hi hC ⟨fun _ => hC, H⟩
    · have hjt : j ≠ t := fun e => chain_never m i hS (e ▸ hj)
      obtain ⟨hjun, oj, hoj, hall⟩ := mem_ready.1 hj
      have hun : listed.getD i false = false := by
        have h0 := (mem_ready.1 hr).1
        by_cases hlt : i < listed.size
        · simp [hlt] at h0 ⊢; exact h0
        · simp [hlt]
      have hap := hfree j oj hoj hji hjun (fun e he hb heq => by
        have := hall e he hb
        rw [heq, hun] at this
        cases this)
      refine wpOpIn_mono (fun a' w' h3 => ⟨fun _ => h3.2.1 hjt, ih _ a' w' (h3.2.1 hjt) (chain_step hj m i (Ne.symm hji) hS) (fun k ok hk hki hu hno => hfree k ok hk hki ?_ hno) (ready_mono hr (Ne.symm hji)) h3.1 ?_⟩)
        (wpOpIn_swap hnd hoj hap (fun cs b => hsel i oi cs b hi) (fun cs b => hsel j oj cs b hoj) hQ hy (H.2 j (ready_mono hj hji)))
      · by_cases hjk : j = k
        · rw [← hjk]; exact hjun
        · rwa [getD_set_ne true hjk] at hu
      · rw [Array.setIfInBounds_comm _ _ hji]
        exact h3.2.2
/-- What reads the same in every world of the class is taken first. -/
theorem takeI {i : Nat} {oi : Oper} {v : Value} {k : Nat} {listed : Array Bool} {a : Act} {w : World} (hi : ops[i]? = some oi) (hs : Region.noSelect ops = true) (hf : Region.free md ops listed i = true) (hr : (Region.ready md ops listed).contains i = true)
    (hsh : chainB md ops t listed ops.size i = true) (hnd : noDefer ops = true)
    (hQ : ∀ c a w, Q (.panic c) (a.put oi.dst v) w → Q (.panic c) a w) (hC : C w) (hy : YieldsI P ops C oi v a)
    (h : ∀ K : Act → World → Prop, (∀ a' w', wpAnyI F n P md ops C t Q k (listed.setIfInBounds i true) a' w' → K a' w') → K (a.put oi.dst v) w) : wpAnyI F n P md ops C t Q (k + 1) listed a w :=
  takeI_aux hnd hi (Region.noSelect_spec hs) hQ k listed a w hC hsh (Region.free_spec hi hf) (by simpa using hr) hy (h _ fun _ _ h => h)
/-- What comes up alone. -/
theorem callI {k : Nat} {o : Oper} {m : Nat} {listed : Array Bool} {a : Act} {w : World} (hr : Region.ready md ops listed = [k]) (hk : ops[k]? = some o) (hw : Region.wanted o (yielded ops a.tmps) = true)
    (h : ∀ K : Act → World → Prop, (∀ a' w', C w' → wpAnyI F n P md ops C t Q m (listed.setIfInBounds k true) a' w' → K a' w') → o.wpIn F n P a w K Q) : wpAnyI F n P md ops C t Q (m + 1) listed a w := by
  refine ⟨fun h0 => absurd (hr.symm.trans h0) (by simp), fun i hi => ?_⟩
  rw [hr, List.mem_singleton] at hi
  subst hi
  unfold wpOpIn
  simp only [hk]
  rw [if_pos hw]
  exact h _ (fun a' w' h1 h2 => ⟨fun _ => h1, h2⟩)
/-- The operation that may leave the class. -/
theorem lastI {o : Oper} {m : Nat} {listed : Array Bool} {a : Act} {w : World} (hr : Region.ready md ops listed = [t]) (hk : ops[t]? = some o) (hw : Region.wanted o (yielded ops a.tmps) = true)
    (h : ∀ K : Act → World → Prop, (∀ a' w', wpAnyI F n P md ops C t Q m (listed.setIfInBounds t true) a' w' → K a' w') → o.wpIn F n P a w K Q) : wpAnyI F n P md ops C t Q (m + 1) listed a w := by
  refine ⟨fun h0 => absurd (hr.symm.trans h0) (by simp), fun i hi => ?_⟩
  rw [hr, List.mem_singleton] at hi
  subst hi
  unfold wpOpIn
  simp only [hk]
  rw [if_pos hw]
  exact h _ (fun a' w' h2 => ⟨fun h0 => absurd rfl h0, h2⟩)
theorem doneI {k : Nat} {listed : Array Bool} {a : Act} {w : World} (hr : Region.ready md ops listed = []) (h : Q .normal a w) : wpAnyI F n P md ops C t Q k listed a w := by
  cases k with
  | zero => exact ⟨hr, h⟩
  | succ k => exact ⟨fun _ => h, fun i hi => absurd hi (by rw [hr]; simp)⟩
theorem wp_region_I (C : World → Prop) (t : Nat) {id : Nat} {a : Act} {w : World} (hm : P.follows .mixedOrders = true) (h : wpAnyI F n P .any ops C t Q ops.size (Array.replicate ops.size false) a w.drew) : (Code.region id ops true).wpIn F n P Q a w :=
  wpIn_region_any hm (wpAnyI_any _ _ _ _ h)
/-- A call of a Go function at the operation, in a fence. -/
theorem enterI {o : Oper} {a : Act} {w : World} {K : Act → World → Prop} {f : FuncId} {args : Array Value} (hf : ∀ g, o.about P w a.eval = some g → F.fn g) (hn : F.depth.isSome = true → 1 ≤ n) (hs : (o.semAt F.round a.eval).run P w = .ok (.enter f args) w) {R : Ending → World → Prop} (h : CallsIn F (n - 1) P f args w R)
    (hK : ∀ e w', R e w' → ∃ v, e = .returned v ∧ K (a.put o.dst v) w') : o.wpIn F n P a w K Q := by
  unfold Oper.wpIn
  rw [hs]
  refine ⟨hf, ?_⟩
  unfold Oper.uponIn
  refine ⟨hn, h.mono fun e w' he => ?_⟩
  obtain ⟨v, rfl, hv⟩ := hK e w' he
  exact hv
end
end Go.Proofs.Ytopabknlgmihpaa
