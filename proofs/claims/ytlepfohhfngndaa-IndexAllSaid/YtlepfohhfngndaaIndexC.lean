/- The index: Deps, Seq. -/
import Derived.Test.YtlepfohhfngndaaIndexB
namespace Go.Proofs.Ytlepfohhfngndaa
open Go Go.RowKit Go.MapKept Go.ChangeMaps Go.Maps


/-- append(s, y), s a row that the call owns; where the row lies. -/
theorem wpList_push_at {α : Type} {enc : α → List Value} {kk : Nat} {w : World} {P : Program} {ops : Array Oper} {rest : List Oper} {o : Oper} {act : Act} {Q : Exit → Act → World → Prop} {t e : TypeId} {bytes : Nat} (T : ElemT P t e enc kk bytes) (hgd : o.guard = none) (s x : Operand)
    (ho : o.op = .call { callee := .builtin .append, args := #[s, x], argTypes := #[t, t] }) (base : Nat) (v : Value) (l : List α) (hs : act.eval s = v) (hown : Owns base e enc kk w v l)
    (g c : Nat) (y : α) (hx : act.eval x = .slice (some ⟨g, 0, none⟩) 1 c) (hnew : ∀ j u, (enc y)[j]? = some u → w.cell? ((⟨g, 0, none⟩ : Addr).add j) = some u)
    (hlen : l.length ≤ 100000) (hbase : base ≤ w.heap.size)
    (h : ∀ v' w', Owns base e enc kk w' v' (l ++ [y]) → w.grownBy w' v.ownBlock → (v'.ownBlock = v.ownBlock ∨ v'.ownBlock = some w.heap.size) → wpList P ops Q rest (act.put o.dst v') w') : wpList P ops Q (o :: rest) act w := by
  obtain ⟨i, z, hi, hz, hsz, hby, hzs⟩ := T.info
  refine wpList_append_own_at w hgd s x t ho base e i z kk bytes T.under hi hz hsz hby hzs T.pos v l.length _ hs hown ⟨g, 0, none⟩ 1 c (enc y) hx (by rw [T.len]; omega) hnew (T.one y) (by unfold maxLen; omega) ?_ hbase ?_
  · have h1 := T.small
    have : (l.length + 1) * bytes ≤ 100001 * 1000 := Nat.mul_le_mul (by omega) h1
    omega
  · intro v' w' h1 h2 _ h4
    refine h v' w' ?_ h2 h4
    unfold Owns
    rw [List.length_append, List.flatMap_append]
    simpa using h1

/-- What Deps has gathered. -/
def ownD (pb : Nat) (W : World) (g : Nat) : Prop := ∃ v, W.heap[pb]? = some (.cells #[v] 40 (0, 0)) ∧ v.ownBlock = some g
def JD (pb : Nat) (D : List (Id × CE)) (W : World) : Prop := ∃ v, W.heap[pb]? = some (.cells #[v] 40 (0, 0)) ∧ Owns (pb + 1) 28 encId 2 W v (D.map (·.1))
theorem cbD (pb : Nat) : CB pb (ownD pb) (JD pb) := by
  refine ⟨fun D W W' S hj k h1 h2 => ?_, fun D W hj g hg => ?_⟩
  · obtain ⟨v, hv, ho⟩ := hj
    have hlt : pb < W.heap.size := (Array.getElem?_eq_some_iff.1 hv).1
    have hv' : W'.heap[pb]? = some (.cells #[v] 40 (0, 0)) := (k.block pb hlt h1).trans hv
    refine ⟨⟨v, hv', ho.same fun g hg => k.block g (ho.lt g hg).2 (h2 g ⟨v, hv, hg⟩)⟩, fun g hg => ?_⟩
    obtain ⟨v2, hv2, hg2⟩ := hg
    rw [hv'] at hv2
    cases hv2
    exact ⟨v, hv, hg2⟩
  · obtain ⟨v, hv, ho⟩ := hj
    obtain ⟨v2, hv2, hg2⟩ := hg
    rw [hv] at hv2
    cases hv2
    exact (ho.lt g hg2).2
theorem cell_one {W : World} {pb : Nat} {v : Value} {T : TypeId} (h : W.heap[pb]? = some (.cells #[v] T (0, 0))) : W.cell? ⟨pb, 0, none⟩ = some v ∧ W.frozen? ⟨pb, 0, none⟩ = false := by
  simp [World.cell?, World.frozen?, h]

set_option maxRecDepth 100000 in
set_option maxHeartbeats 3200000 in
theorem DepsCall_any (pb : Nat) (D : List (Id × CE)) (W : World) (i : Id) (e : CE) (hj : JD pb D W) (hD : D.length ≤ 50000) :
    Calls Try.prog 46 #[.agg #[.int .i64 i.r, .int .i64 i.n], vE e, .pointer (some ⟨pb, 0, none⟩)] W fun e' W' => e' = .returned (.tuple #[]) ∧ JD pb (D ++ [(i, e)]) W' ∧ Keeps (fun g => g = pb ∨ ownD pb W g) W W' ∧ ∀ g, ownD pb W' g → ownD pb W g ∨ W.heap.size ≤ g := by
  obtain ⟨v, hv, hown⟩ := hj
  obtain ⟨c0, f0⟩ := cell_one hv
  have hlt : pb < W.heap.size := (Array.getElem?_eq_some_iff.1 hv).1
  unfold vE
  go_enter Try.func46, Try.ntmps46
  go_wp2_with (at_builtin; go_must (refine wpList_push_at elemId rfl _ _ rfl (pb + 1) v (D.map (·.1)) rfl (((hown.alloc _).alloc _).alloc _) (W.heap.size + 2) 1 i rfl (cells_newN (by simp) _ _) (by simp; omega) (by simp; omega) ?_))
  intro v' w1 hown' hgrow hwhere
  have hv1 : w1.heap[pb]? = some (.cells #[v] 40 (0, 0)) := by
    rw [hgrow.block pb (by simp; omega) (fun e0 => by have := (hown.lt pb e0.symm).1; omega)]
    exact ((((Ext.refl W).alloc _).alloc _).alloc _).block pb hlt |>.trans hv
  obtain ⟨c1, f1⟩ := cell_one hv1
  have hk1 : Keeps (fun g => g = pb ∨ ownD pb W g) W w1 := ((((Keeps.refl _ W).alloc _).alloc _).alloc _).grown hgrow (fun g _ hg => Or.inr ⟨v, hv, hg⟩)
  have HK := hid (hk1.setCell (p := ⟨pb, 0, none⟩) (fun _ => Or.inl rfl) v')
  have hv2 : (w1.setCell ⟨pb, 0, none⟩ v').heap[pb]? = some (.cells #[v'] 40 (0, 0)) := by
    have := heap_setCell_at (o := 0) hv1 v'
    simpa using this
  have ho2 : Owns (pb + 1) 28 encId 2 (w1.setCell ⟨pb, 0, none⟩ v') v' ((D ++ [(i, e)]).map (·.1)) := by
    rw [List.map_append]
    exact hown'.same fun g hg => Below.heap_setCell _ _ _ _ (fun e0 => by have := (hown'.lt g hg).1; simp only at e0; omega)
  have HJ : Hid (JD pb (D ++ [(i, e)]) (w1.setCell ⟨pb, 0, none⟩ v')) := ⟨v', hv2, ho2⟩
  have HO : Hid (∀ g, ownD pb (w1.setCell ⟨pb, 0, none⟩ v') g → ownD pb W g ∨ W.heap.size ≤ g) := fun g hg => by
    obtain ⟨v3, hv3, hg3⟩ := hg
    rw [hv2] at hv3
    cases hv3
    rcases hwhere with h0 | h0
    · rw [h0] at hg3
      exact Or.inl ⟨v, hv, hg3⟩
    · rw [h0] at hg3
      cases hg3
      exact Or.inr (by first | omega | (simp; omega))
  obtain ⟨aO, gO, oO, cO, hvO, _, _, _⟩ := Owns.rd encId_len hown'
  subst hvO
  clear hk1 hv2 ho2 hv1 hown' hgrow hwhere hown hv
  generalize (List.map (fun x : Id × CE => x.1) D ++ [i]).length = nn at *
  go_wp2
  go_end0
  exact ⟨rfl, HJ.out, HK.out, HO.out⟩

set_option maxRecDepth 100000 in
set_option maxHeartbeats 3200000 in
theorem Deps_any (w : World) (b : Nat) (s : IxS) (c : Cmd) (but : Id) (h : Ix w b s) (hv : Inv s) (hk : s.lk.length ≤ 200) (hl : s.la.length ≤ 200) :
    Calls Try.prog 29 #[.pointer (some ⟨b, 0, none⟩), .agg #[.int .i64 c.kind, .int .i64 c.client, .int .i64 c.seq, .string c.key, .string c.val, .int .i64 c.rev], .agg #[.int .i64 but.r, .int .i64 but.n]] w fun e w' => ∃ (v : Value) (D : List (Id × CE)), e = .returned v ∧ Owns w.heap.size 28 encId 2 w' v (setR (D.map (·.1))) ∧ (∀ x : Id × CE, x ∈ D ↔ GoodX s c but x) ∧ Below w.heap.size w w' := by
  have hmf : ∀ (fn : Fn) (first cap : Array Value) (w : World), (Instr.makeFunc fn first cap).run Try.prog w = .ok (.func fn first cap) w := fun _ _ _ _ => rfl
  have eg : ∀ args W, (callFunc 46 args).run Try.prog W = .ok (.enter 46 args) W := enters_of Try.func46 (by kernel_rfl) rfl
  have hE : Ext w (((w.alloc (.cells #[.int .i64 c.kind, .int .i64 c.client, .int .i64 c.seq, .string c.key, .string c.val, .int .i64 c.rev] 49)).alloc (.cells #[.int .i64 but.r, .int .i64 but.n] 28)).alloc (.cells #[.slice none 0 0] 40)) := (((Ext.refl w).alloc _).alloc _).alloc _
  have hpb : (((w.alloc (.cells #[.int .i64 c.kind, .int .i64 c.client, .int .i64 c.seq, .string c.key, .string c.val, .int .i64 c.rev] 49)).alloc (.cells #[.int .i64 but.r, .int .i64 but.n] 28)).alloc (.cells #[.slice none 0 0] 40)).heap[w.heap.size + 1 + 1]? = some (.cells #[.slice none 0 0] 40 (0, 0)) := by
    have := heap_alloc_new ((w.alloc (.cells #[.int .i64 c.kind, .int .i64 c.client, .int .i64 c.seq, .string c.key, .string c.val, .int .i64 c.rev] 49)).alloc (.cells #[.int .i64 but.r, .int .i64 but.n] 28)) (.cells #[.slice none 0 0] 40)
    simpa using this
  have hJ0 : JD (w.heap.size + 1 + 1) [] (((w.alloc (.cells #[.int .i64 c.kind, .int .i64 c.client, .int .i64 c.seq, .string c.key, .string c.val, .int .i64 c.rev] 49)).alloc (.cells #[.int .i64 but.r, .int .i64 but.n] 28)).alloc (.cells #[.slice none 0 0] 40)) := ⟨_, hpb, Owns.nil _ _ _ _ _⟩
  have hpx : w.heap.size + 1 + 1 ∉ s.blocks b := fun hx => by have := h.lt _ hx; omega
  have hM := meets_any _ b s c but (h.ext hE) hv hk hl 46 (w.heap.size + 1 + 1) eg (ownD (w.heap.size + 1 + 1)) (JD (w.heap.size + 1 + 1)) (cbD _) (by simp) hpx (fun g hg => by
    obtain ⟨v, hv', hg'⟩ := hg
    rw [hpb] at hv'
    cases hv'
    cases hg') hJ0 (fun D W i e hj hD => DepsCall_any _ D W i e hj hD)
  have HM := hid hM
  have HNO : Hid (∀ g, ¬ ownD (w.heap.size + 1 + 1) (((w.alloc (.cells #[.int .i64 c.kind, .int .i64 c.client, .int .i64 c.seq, .string c.key, .string c.val, .int .i64 c.rev] 49)).alloc (.cells #[.int .i64 but.r, .int .i64 but.n] 28)).alloc (.cells #[.slice none 0 0] 40)) g) := fun g hg => by
    obtain ⟨v, hv', hg'⟩ := hg
    rw [hpb] at hv'
    cases hv'
    cases hg'
  have HE := hid hE
  clear hM hE hpb hJ0 eg h
  go_enter Try.func29, Try.ntmps29
  go_wp2_with fail
  refine HM.out.mono ?_
  rintro e w1 ⟨rfl, D, hj, hD, hDl, hk1⟩
  obtain ⟨v, hv1, hown⟩ := hj
  obtain ⟨c0, f0⟩ := cell_one hv1
  have hb1 : Below w.heap.size w w1 := HE.out.below.trans (hk1.below (by simp; omega) (fun g hg => by
    rcases hg with rfl | hg
    · omega
    · exact absurd hg (HNO.out g)))
  obtain ⟨dl, hdl⟩ : ∃ dl : List Id, dl = D.map (·.1) := ⟨_, rfl⟩
  have hdn : dl.length ≤ 50000 := by rw [hdl, List.length_map]; exact hDl
  rw [← hdl] at hown
  have HDL := hid hdl
  clear hdl hDl
  obtain ⟨aO, gO, oO, cO, hvO, hcO, hrO, hnO⟩ := Owns.rd encId_len hown
  subst hvO
  have HB := hid hb1
  have hs := hb1.size
  clear hk1 hb1 HM HNO HE hown hmf hv1
  go_wp2_with fail
  refine (Set_ids w1 aO gO oO cO dl hrO hdn).mono ?_
  rintro e w2 ⟨v2, rfl, hown2, hb2⟩
  have HF := hid (below_trans' HB.out hb2)
  rw [HDL.out] at hown2
  have HO := hid (hown2.mono hs)
  clear hown2 hb2 HB
  go_wp2
  go_ret
  exact ⟨_, D, rfl, HO.out, hD, HF.out⟩


def maxS (D : List (Id × CE)) : Int := D.foldl (fun n x => if n < x.2.2 then x.2.2 else n) 0
theorem maxS_snoc (D : List (Id × CE)) (x : Id × CE) : maxS (D ++ [x]) = if maxS D < x.2.2 then x.2.2 else maxS D := by unfold maxS; rw [List.foldl_append]; rfl
theorem maxS_fold (D : List (Id × CE)) : ∀ n : Int, n ≤ D.foldl (fun n x => if n < x.2.2 then x.2.2 else n) n ∧ (∀ x ∈ D, x.2.2 ≤ D.foldl (fun n x => if n < x.2.2 then x.2.2 else n) n) ∧ (D.foldl (fun n x => if n < x.2.2 then x.2.2 else n) n = n ∨ ∃ x ∈ D, D.foldl (fun n x => if n < x.2.2 then x.2.2 else n) n = x.2.2) := by
  induction D with
  | nil => intro n; exact ⟨Int.le_refl _, fun x hx => (List.not_mem_nil hx).elim, Or.inl rfl⟩
  | cons a r ih =>
    intro n
    rw [List.foldl_cons]
    obtain ⟨h1, h2, h3⟩ := ih (if n < a.2.2 then a.2.2 else n)
    have h4 : n ≤ (if n < a.2.2 then a.2.2 else n) ∧ a.2.2 ≤ (if n < a.2.2 then a.2.2 else n) := by split <;> omega
    refine ⟨by omega, fun x hx => ?_, ?_⟩
    · rcases List.mem_cons.1 hx with rfl | hx
      · omega
      · exact h2 x hx
    · rcases h3 with h3 | ⟨x, hx, h3⟩
      · by_cases hn : n < a.2.2
        · rw [if_pos hn] at h3 ⊢
          exact Or.inr ⟨a, List.mem_cons_self, h3⟩
        · rw [if_neg hn] at h3 ⊢
          exact Or.inl h3
      · exact Or.inr ⟨x, List.mem_cons_of_mem _ hx, h3⟩
def JS (pb : Nat) (D : List (Id × CE)) (W : World) : Prop := W.heap[pb]? = some (.cells #[.int .i64 (maxS D)] 3 (0, 0))
theorem cbS (pb : Nat) : CB pb (fun _ _ => False) (JS pb) := by
  refine ⟨fun D W W' S hj k h1 _ => ?_, fun D W hj g hg => hg.elim⟩
  have hlt : pb < W.heap.size := (Array.getElem?_eq_some_iff.1 hj).1
  exact ⟨(k.block pb hlt h1).trans hj, fun _ h => h⟩

set_option maxRecDepth 100000 in
set_option maxHeartbeats 3200000 in
theorem SeqCall_any (pb : Nat) (D : List (Id × CE)) (W : World) (i : Id) (e : CE) (hj : JS pb D W) :
    Calls Try.prog 49 #[.agg #[.int .i64 i.r, .int .i64 i.n], vE e, .pointer (some ⟨pb, 0, none⟩)] W fun e' W' => e' = .returned (.tuple #[]) ∧ JS pb (D ++ [(i, e)]) W' ∧ Keeps (fun g => g = pb ∨ False) W W' ∧ ∀ g : Nat, False → False ∨ W.heap.size ≤ g := by
  obtain ⟨c0, f0⟩ := cell_one hj
  have hl : pb < W.heap.size := (Array.getElem?_eq_some_iff.1 hj).1
  unfold vE
  by_cases hlt : maxS D < e.2
  · have HS := hid (show maxS (D ++ [(i, e)]) = e.2 by rw [maxS_snoc]; simp [hlt])
    have HJ : Hid (JS pb (D ++ [(i, e)]) (((W.setCell ⟨pb, 0, none⟩ (.int .i64 (e.2))).alloc (.cells #[.int .i64 i.r, .int .i64 i.n] 28)).alloc (.cells #[.int .i64 e.1.kind, .int .i64 e.1.client, .int .i64 e.1.seq, .string e.1.key, .string e.1.val, .int .i64 e.1.rev, .int .i64 e.2] 90))) := by
      have := heap_setCell_at (o := 0) hj (.int .i64 (e.2))
      have h2 := (((Ext.refl (W.setCell ⟨pb, 0, none⟩ (.int .i64 (e.2)))).alloc (.cells #[.int .i64 i.r, .int .i64 i.n] 28)).alloc (.cells #[.int .i64 e.1.kind, .int .i64 e.1.client, .int .i64 e.1.seq, .string e.1.key, .string e.1.val, .int .i64 e.1.rev, .int .i64 e.2] 90)).block pb (by simpa [World.setCell] using hl)
      show JS _ _ _
      unfold JS
      rw [HS.out, h2]
      simpa using this
    have hle : max (maxS D) e.2 = e.2 := by omega
    clear hj
    generalize maxS D = n at *
    go_enter Try.func49, Try.ntmps49
    go_wp2
    go_end0
    have hK : ∀ u, Keeps (fun g => g = pb ∨ False) W (((W.setCell ⟨pb, 0, none⟩ u).alloc (.cells #[.int .i64 i.r, .int .i64 i.n] 28)).alloc (.cells #[.int .i64 e.1.kind, .int .i64 e.1.client, .int .i64 e.1.seq, .string e.1.key, .string e.1.val, .int .i64 e.1.rev, .int .i64 e.2] 90)) := fun u => (((Keeps.refl _ W).setCell (p := ⟨pb, 0, none⟩) (fun _ => Or.inl rfl) _).alloc _).alloc _
    first
      | exact ⟨rfl, HJ.out, hK _, fun g hg => hg.elim⟩
      | exact ⟨rfl, HJ.out, (hK _).mono (fun _ _ h => h.elim id (fun f => f.elim))⟩
  · have HS := hid (show maxS (D ++ [(i, e)]) = maxS D by rw [maxS_snoc]; simp [hlt])
    have HJ : Hid (JS pb (D ++ [(i, e)]) (((W.setCell ⟨pb, 0, none⟩ (.int .i64 (maxS D))).alloc (.cells #[.int .i64 i.r, .int .i64 i.n] 28)).alloc (.cells #[.int .i64 e.1.kind, .int .i64 e.1.client, .int .i64 e.1.seq, .string e.1.key, .string e.1.val, .int .i64 e.1.rev, .int .i64 e.2] 90))) := by
      have := heap_setCell_at (o := 0) hj (.int .i64 (maxS D))
      have h2 := (((Ext.refl (W.setCell ⟨pb, 0, none⟩ (.int .i64 (maxS D)))).alloc (.cells #[.int .i64 i.r, .int .i64 i.n] 28)).alloc (.cells #[.int .i64 e.1.kind, .int .i64 e.1.client, .int .i64 e.1.seq, .string e.1.key, .string e.1.val, .int .i64 e.1.rev, .int .i64 e.2] 90)).block pb (by simpa [World.setCell] using hl)
      show JS _ _ _
      unfold JS
      rw [HS.out, h2]
      simpa using this
    have hle : max (maxS D) e.2 = maxS D := by omega
    clear hj
    generalize maxS D = n at *
    go_enter Try.func49, Try.ntmps49
    go_wp2
    go_end0
    have hK : ∀ u, Keeps (fun g => g = pb ∨ False) W (((W.setCell ⟨pb, 0, none⟩ u).alloc (.cells #[.int .i64 i.r, .int .i64 i.n] 28)).alloc (.cells #[.int .i64 e.1.kind, .int .i64 e.1.client, .int .i64 e.1.seq, .string e.1.key, .string e.1.val, .int .i64 e.1.rev, .int .i64 e.2] 90)) := fun u => (((Keeps.refl _ W).setCell (p := ⟨pb, 0, none⟩) (fun _ => Or.inl rfl) _).alloc _).alloc _
    first
      | exact ⟨rfl, HJ.out, hK _, fun g hg => hg.elim⟩
      | exact ⟨rfl, HJ.out, (hK _).mono (fun _ _ h => h.elim id (fun f => f.elim))⟩

set_option maxRecDepth 100000 in
set_option maxHeartbeats 3200000 in
theorem Seq_any (w : World) (b : Nat) (s : IxS) (c : Cmd) (but : Id) (h : Ix w b s) (hv : Inv s) (hk : s.lk.length ≤ 200) (hl : s.la.length ≤ 200) (hM : ∀ i e, aget s.la i = some e → e.2 ≤ 1152921504606846976) :
    Calls Try.prog 31 #[.pointer (some ⟨b, 0, none⟩), .agg #[.int .i64 c.kind, .int .i64 c.client, .int .i64 c.seq, .string c.key, .string c.val, .int .i64 c.rev], .agg #[.int .i64 but.r, .int .i64 but.n]] w fun e w' => ∃ D : List (Id × CE), e = .returned (.int .i64 (maxS D + 1)) ∧ (∀ x : Id × CE, x ∈ D ↔ GoodX s c but x) ∧ Below w.heap.size w w' := by
  have hmf : ∀ (fn : Fn) (first cap : Array Value) (w : World), (Instr.makeFunc fn first cap).run Try.prog w = .ok (.func fn first cap) w := fun _ _ _ _ => rfl
  have eg : ∀ args W, (callFunc 49 args).run Try.prog W = .ok (.enter 49 args) W := enters_of Try.func49 (by kernel_rfl) rfl
  have hE : Ext w (((w.alloc (.cells #[.int .i64 c.kind, .int .i64 c.client, .int .i64 c.seq, .string c.key, .string c.val, .int .i64 c.rev] 49)).alloc (.cells #[.int .i64 but.r, .int .i64 but.n] 28)).alloc (.cells #[.int .i64 0] 3)) := (((Ext.refl w).alloc _).alloc _).alloc _
  have hJ0 : JS (w.heap.size + 1 + 1) [] (((w.alloc (.cells #[.int .i64 c.kind, .int .i64 c.client, .int .i64 c.seq, .string c.key, .string c.val, .int .i64 c.rev] 49)).alloc (.cells #[.int .i64 but.r, .int .i64 but.n] 28)).alloc (.cells #[.int .i64 0] 3)) := by
    have := heap_alloc_new ((w.alloc (.cells #[.int .i64 c.kind, .int .i64 c.client, .int .i64 c.seq, .string c.key, .string c.val, .int .i64 c.rev] 49)).alloc (.cells #[.int .i64 but.r, .int .i64 but.n] 28)) (.cells #[.int .i64 0] 3)
    show (_ : Option Obj) = some (Obj.cells #[Value.int .i64 0] 3 (0, 0))
    simpa using this
  have hpx : w.heap.size + 1 + 1 ∉ s.blocks b := fun hx => by have := h.lt _ hx; omega
  have hM' := meets_any _ b s c but (h.ext hE) hv hk hl 49 (w.heap.size + 1 + 1) eg (fun _ _ => False) (JS (w.heap.size + 1 + 1)) (cbS _) (by simp) hpx (fun g hg => hg.elim) hJ0 (fun D W i e hj _ => SeqCall_any _ D W i e hj)
  have HM := hid hM'
  have HE := hid hE
  clear hM' hE hJ0 eg h
  go_enter Try.func31, Try.ntmps31
  go_wp2_with fail
  refine HM.out.mono ?_
  rintro e w1 ⟨rfl, D, hj, hD, hDl, hk1⟩
  obtain ⟨c0, f0⟩ := cell_one hj
  have hb1 : Below w.heap.size w w1 := HE.out.below.trans (hk1.below (by simp; omega) (fun g hg => by
    rcases hg with rfl | hg
    · omega
    · exact hg.elim))
  obtain ⟨n1, _, n3⟩ := maxS_fold D 0
  change 0 ≤ maxS D at n1
  have hmx : maxS D ≤ 1152921504606846976 := by
    rcases n3 with n3 | ⟨x, hx, n3⟩
    · change maxS D = 0 at n3; omega
    · change maxS D = x.2.2 at n3
      have := hM x.1 x.2 ((hD x).1 hx).1
      omega
  obtain ⟨n, hn⟩ : ∃ n, n = maxS D := ⟨_, rfl⟩
  rw [← hn] at c0 n1 hmx
  have HN := hid hn
  have HB := hid hb1
  have HD := hid hD
  clear hk1 hb1 HM HE hmf hj hn n3 hM hD
  go_wp2_with fail
  go_ret
  exact ⟨D, by rw [← HN.out]; rfl, HD.out, HB.out⟩

end Go.Proofs.Ytlepfohhfngndaa
