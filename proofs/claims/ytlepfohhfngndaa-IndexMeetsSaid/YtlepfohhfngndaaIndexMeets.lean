/- IndexMeets: of two commands that meet whoever comes second has the first. The walk. -/
import Derived.Test.YtlepfohhfngndaaIndexLaw
import Derived.Test.YtlepfohhfngndaaHas
namespace Go.Proofs.Ytlepfohhfngndaa
open Go Go.RowKit Go.MapKept Go.ChangeMaps Go.Maps

theorem keysB_comm (a b : Cmd) : keysB a b = keysB b a := by
  unfold keysB
  rw [Bool.or_comm (_ && _), Bool.beq_comm]
theorem meetB_comm (a b : Cmd) : meetB a b = meetB b a := by
  unfold meetB
  rw [keysB_comm a b, Bool.or_comm (writesB a), Bool.or_comm (a.kind == 0), Bool.beq_comm (a := a.client)]
  cases (a.kind == 6) <;> cases (b.kind == 6) <;> rfl
theorem mt_has {a b : Id} {c d : Cmd} {q : Int} (h : a ≠ b) : setR (metI [(a, (c, q))] d b) = if meetB c d then [a] else [] := by
  have h1 : meetsE d b (a, (c, q)) = meetB c d := by
    unfold meetsE
    simp only [h, decide_false, Bool.not_false, Bool.true_and]
    exact meetB_comm d c
  unfold metI
  cases h2 : meetB c d
  · rw [List.filter_cons_of_neg (by rw [h1, h2]; simp)]; rfl
  · rw [List.filter_cons_of_pos (by rw [h1, h2])]; rfl
theorem mt_seq {a b : Id} {c d : Cmd} {q : Int} (h : a ≠ b) : seqE [(a, (c, q))] d b = if meetB c d = true ∧ 0 < q then q else 0 := by
  have h1 : meetsE d b (a, (c, q)) = meetB c d := by
    unfold meetsE
    simp only [h, decide_false, Bool.not_false, Bool.true_and]
    exact meetB_comm d c
  unfold seqE
  simp only [List.foldl_cons, List.foldl_nil, seqStep, h1, Bool.and_eq_true, decide_eq_true_eq]
theorem mt_self {a : Id} {c d : Cmd} {q : Int} : metI [(a, (c, q))] d a = [] := by
  have h1 : meetsE d a (a, (c, q)) = false := by unfold meetsE; simp
  unfold metI
  rw [List.filter_cons_of_neg (by rw [h1]; simp)]; rfl
theorem mt_selfq {a : Id} {c d : Cmd} {q : Int} : seqE [(a, (c, q))] d a = 0 := by
  have h1 : meetsE d a (a, (c, q)) = false := by unfold meetsE; simp
  unfold seqE
  simp only [List.foldl_cons, List.foldl_nil, seqStep, h1, Bool.false_and]
  rfl
def MBox (a b : Id) (c d : Cmd) (w W : World) : Prop := W.cell? ⟨w.heap.size, 0, none⟩ = some (.int .i64 a.r) ∧ W.cell? ⟨w.heap.size, 1, none⟩ = some (.int .i64 a.n) ∧ W.cell? ⟨w.heap.size + 1, 0, none⟩ = some (.int .i64 b.r) ∧ W.cell? ⟨w.heap.size + 1, 1, none⟩ = some (.int .i64 b.n) ∧ W.cell? ⟨w.heap.size + 1 + 1, 0, none⟩ = some (.int .i64 c.kind) ∧ W.cell? ⟨w.heap.size + 1 + 1, 1, none⟩ = some (.int .i64 c.client) ∧ W.cell? ⟨w.heap.size + 1 + 1, 2, none⟩ = some (.int .i64 c.seq) ∧ W.cell? ⟨w.heap.size + 1 + 1, 3, none⟩ = some (.string c.key) ∧ W.cell? ⟨w.heap.size + 1 + 1, 4, none⟩ = some (.string c.val) ∧ W.cell? ⟨w.heap.size + 1 + 1, 5, none⟩ = some (.int .i64 c.rev) ∧ W.cell? ⟨w.heap.size + 1 + 1 + 1, 0, none⟩ = some (.int .i64 d.kind) ∧ W.cell? ⟨w.heap.size + 1 + 1 + 1, 1, none⟩ = some (.int .i64 d.client) ∧ W.cell? ⟨w.heap.size + 1 + 1 + 1, 2, none⟩ = some (.int .i64 d.seq) ∧ W.cell? ⟨w.heap.size + 1 + 1 + 1, 3, none⟩ = some (.string d.key) ∧ W.cell? ⟨w.heap.size + 1 + 1 + 1, 4, none⟩ = some (.string d.val) ∧ W.cell? ⟨w.heap.size + 1 + 1 + 1, 5, none⟩ = some (.int .i64 d.rev)
theorem boxM (w : World) (a b : Id) (c d : Cmd) {W : World} (h : Below (w.heap.size + 4) ((((w.alloc (.cells #[.int .i64 a.r, .int .i64 a.n] 28)).alloc (.cells #[.int .i64 b.r, .int .i64 b.n] 28)).alloc (.cells #[.int .i64 c.kind, .int .i64 c.client, .int .i64 c.seq, .string c.key, .string c.val, .int .i64 c.rev] 49)).alloc (.cells #[.int .i64 d.kind, .int .i64 d.client, .int .i64 d.seq, .string d.key, .string d.val, .int .i64 d.rev] 49)) W) : MBox a b c d w W := by
  have n0 : ∀ (W : World) (A : Array Value) (t : TypeId) (o : Nat), (W.alloc (.cells A t)).cell? ⟨W.heap.size, o, none⟩ = A[o]? := fun W A t o => by simp
  have h0 : ∀ (A B C D : Array Value) (s t u v : TypeId) (o : Nat), ((((w.alloc (.cells A s)).alloc (.cells B t)).alloc (.cells C u)).alloc (.cells D v)).cell? ⟨w.heap.size, o, none⟩ = A[o]? := fun A B C D s t u v o => by
    rw [((((Ext.refl (w.alloc (.cells A s))).alloc (.cells B t)).alloc (.cells C u)).alloc (.cells D v)).below.cell (p := ⟨w.heap.size, o, none⟩) (by simp), n0]
  have h1 : ∀ (A B C D : Array Value) (s t u v : TypeId) (o : Nat), ((((w.alloc (.cells A s)).alloc (.cells B t)).alloc (.cells C u)).alloc (.cells D v)).cell? ⟨w.heap.size + 1, o, none⟩ = B[o]? := fun A B C D s t u v o => by
    rw [(((Ext.refl ((w.alloc (.cells A s)).alloc (.cells B t))).alloc (.cells C u)).alloc (.cells D v)).below.cell (p := ⟨w.heap.size + 1, o, none⟩) (by simp), show w.heap.size + 1 = (w.alloc (.cells A s)).heap.size by simp, n0]
  have h2 : ∀ (A B C D : Array Value) (s t u v : TypeId) (o : Nat), ((((w.alloc (.cells A s)).alloc (.cells B t)).alloc (.cells C u)).alloc (.cells D v)).cell? ⟨w.heap.size + 1 + 1, o, none⟩ = C[o]? := fun A B C D s t u v o => by
    rw [((Ext.refl (((w.alloc (.cells A s)).alloc (.cells B t)).alloc (.cells C u))).alloc (.cells D v)).below.cell (p := ⟨w.heap.size + 1 + 1, o, none⟩) (by simp), show w.heap.size + 1 + 1 = ((w.alloc (.cells A s)).alloc (.cells B t)).heap.size by simp, n0]
  have h3 : ∀ (A B C D : Array Value) (s t u v : TypeId) (o : Nat), ((((w.alloc (.cells A s)).alloc (.cells B t)).alloc (.cells C u)).alloc (.cells D v)).cell? ⟨w.heap.size + 1 + 1 + 1, o, none⟩ = D[o]? := fun A B C D s t u v o => by
    rw [show w.heap.size + 1 + 1 + 1 = (((w.alloc (.cells A s)).alloc (.cells B t)).alloc (.cells C u)).heap.size by simp, n0]
  refine ⟨?_, ?_, ?_, ?_, ?_, ?_, ?_, ?_, ?_, ?_, ?_, ?_, ?_, ?_, ?_, ?_⟩
  all_goals rw [h.cell (by simp)]; simp only [h0, h1, h2, h3]; rfl
/-- What holds in the worlds behind the boxes. -/
theorem MBox.of {a b : Id} {c d : Cmd} {w w1 W : World} (h : Below (w.heap.size + 4) ((((w.alloc (.cells #[.int .i64 a.r, .int .i64 a.n] 28)).alloc (.cells #[.int .i64 b.r, .int .i64 b.n] 28)).alloc (.cells #[.int .i64 c.kind, .int .i64 c.client, .int .i64 c.seq, .string c.key, .string c.val, .int .i64 c.rev] 49)).alloc (.cells #[.int .i64 d.kind, .int .i64 d.client, .int .i64 d.seq, .string d.key, .string d.val, .int .i64 d.rev] 49)) w1) (h2 : Below w1.heap.size w1 W) : MBox a b c d w W :=
  boxM w a b c d (h.trans (h2.mono (by have := h.size; simp at this; omega)))
set_option maxRecDepth 100000 in
set_option maxHeartbeats 8000000 in
theorem IM_c (w : World) (a b : Id) (c d : Cmd) (q : Int) (hc : greatB c = true) :
    Calls Try.prog 7 #[.agg #[.int .i64 a.r, .int .i64 a.n], .agg #[.int .i64 b.r, .int .i64 b.n], .agg #[.int .i64 c.kind, .int .i64 c.client, .int .i64 c.seq, .string c.key, .string c.val, .int .i64 c.rev], .agg #[.int .i64 d.kind, .int .i64 d.client, .int .i64 d.seq, .string d.key, .string d.val, .int .i64 d.rev], .int .i64 q] w fun e w' => e = .returned (.bool true) ∧ Below w.heap.size w w' := by
  have hE : Ext w ((((w.alloc (.cells #[.int .i64 a.r, .int .i64 a.n] 28)).alloc (.cells #[.int .i64 b.r, .int .i64 b.n] 28)).alloc (.cells #[.int .i64 c.kind, .int .i64 c.client, .int .i64 c.seq, .string c.key, .string c.val, .int .i64 c.rev] 49)).alloc (.cells #[.int .i64 d.kind, .int .i64 d.client, .int .i64 d.seq, .string d.key, .string d.val, .int .i64 d.rev] 49)) := ((((Ext.refl w).alloc _).alloc _).alloc _).alloc _
  have hbx : Below (w.heap.size + 4) ((((w.alloc (.cells #[.int .i64 a.r, .int .i64 a.n] 28)).alloc (.cells #[.int .i64 b.r, .int .i64 b.n] 28)).alloc (.cells #[.int .i64 c.kind, .int .i64 c.client, .int .i64 c.seq, .string c.key, .string c.val, .int .i64 c.rev] 49)).alloc (.cells #[.int .i64 d.kind, .int .i64 d.client, .int .i64 d.seq, .string d.key, .string d.val, .int .i64 d.rev] 49)) ((((w.alloc (.cells #[.int .i64 a.r, .int .i64 a.n] 28)).alloc (.cells #[.int .i64 b.r, .int .i64 b.n] 28)).alloc (.cells #[.int .i64 c.kind, .int .i64 c.client, .int .i64 c.seq, .string c.key, .string c.val, .int .i64 c.rev] 49)).alloc (.cells #[.int .i64 d.kind, .int .i64 d.client, .int .i64 d.seq, .string d.key, .string d.val, .int .i64 d.rev] 49)) := Below.refl _ _
  have hC := fun W => Great_any c W
  have hD := fun W => Great_any d W
  have heq := run_eql_id a b
  rw [hc] at hC
  clear heq

  have HG := hid hC
  have HD := hid hD
  have HE := hid hE
  clear hC hD hE
  obtain ⟨a0, a1, b0, b1, c0, c1, c2, c3, c4, c5, d0, d1, d2, d3, d4, d5⟩ := boxM w a b c d hbx
  go_enter Try.func7, Try.ntmps7
  go_wp2_with fail
  refine (HG.out _).mono ?_
  rintro e w1 ⟨rfl, hE1⟩
  replace hbx := hbx.trans (hE1.below.mono (by simp))
  have HE1 := hid (HE.out.trans hE1)
  clear hE1 a0 a1 b0 b1 c0 c1 c2 c3 c4 c5 d0 d1 d2 d3 d4 d5
  obtain ⟨a0, a1, b0, b1, c0, c1, c2, c3, c4, c5, d0, d1, d2, d3, d4, d5⟩ := boxM w a b c d hbx
  have HBB := hid (HE1.out.below)
  clear a0 a1 b0 b1 c0 c1 c2 c3 c4 c5 d0 d1 d2 d3 d4 d5 hbx
  go_wp2_with fail
  refine (IndexAwake _).mono ?_
  rintro e w9 ⟨rfl, hb9⟩
  have HF := hid (below_trans' HBB.out hb9)
  clear hb9
  go_wp2
  go_ret
  exact ⟨rfl, HF.out⟩

set_option maxRecDepth 100000 in
set_option maxHeartbeats 8000000 in
theorem IM_d (w : World) (a b : Id) (c d : Cmd) (q : Int) (hc : greatB c = false) (hd : greatB d = true) :
    Calls Try.prog 7 #[.agg #[.int .i64 a.r, .int .i64 a.n], .agg #[.int .i64 b.r, .int .i64 b.n], .agg #[.int .i64 c.kind, .int .i64 c.client, .int .i64 c.seq, .string c.key, .string c.val, .int .i64 c.rev], .agg #[.int .i64 d.kind, .int .i64 d.client, .int .i64 d.seq, .string d.key, .string d.val, .int .i64 d.rev], .int .i64 q] w fun e w' => e = .returned (.bool true) ∧ Below w.heap.size w w' := by
  have hE : Ext w ((((w.alloc (.cells #[.int .i64 a.r, .int .i64 a.n] 28)).alloc (.cells #[.int .i64 b.r, .int .i64 b.n] 28)).alloc (.cells #[.int .i64 c.kind, .int .i64 c.client, .int .i64 c.seq, .string c.key, .string c.val, .int .i64 c.rev] 49)).alloc (.cells #[.int .i64 d.kind, .int .i64 d.client, .int .i64 d.seq, .string d.key, .string d.val, .int .i64 d.rev] 49)) := ((((Ext.refl w).alloc _).alloc _).alloc _).alloc _
  have hbx : Below (w.heap.size + 4) ((((w.alloc (.cells #[.int .i64 a.r, .int .i64 a.n] 28)).alloc (.cells #[.int .i64 b.r, .int .i64 b.n] 28)).alloc (.cells #[.int .i64 c.kind, .int .i64 c.client, .int .i64 c.seq, .string c.key, .string c.val, .int .i64 c.rev] 49)).alloc (.cells #[.int .i64 d.kind, .int .i64 d.client, .int .i64 d.seq, .string d.key, .string d.val, .int .i64 d.rev] 49)) ((((w.alloc (.cells #[.int .i64 a.r, .int .i64 a.n] 28)).alloc (.cells #[.int .i64 b.r, .int .i64 b.n] 28)).alloc (.cells #[.int .i64 c.kind, .int .i64 c.client, .int .i64 c.seq, .string c.key, .string c.val, .int .i64 c.rev] 49)).alloc (.cells #[.int .i64 d.kind, .int .i64 d.client, .int .i64 d.seq, .string d.key, .string d.val, .int .i64 d.rev] 49)) := Below.refl _ _
  have hC := fun W => Great_any c W
  have hD := fun W => Great_any d W
  have heq := run_eql_id a b
  rw [hc] at hC
  rw [hd] at hD
  clear heq

  have HG := hid hC
  have HD := hid hD
  have HE := hid hE
  clear hC hD hE
  obtain ⟨a0, a1, b0, b1, c0, c1, c2, c3, c4, c5, d0, d1, d2, d3, d4, d5⟩ := boxM w a b c d hbx
  go_enter Try.func7, Try.ntmps7
  go_wp2_with fail
  refine (HG.out _).mono ?_
  rintro e w1 ⟨rfl, hE1⟩
  replace hbx := hbx.trans (hE1.below.mono (by simp))
  have HE1 := hid (HE.out.trans hE1)
  clear hE1 a0 a1 b0 b1 c0 c1 c2 c3 c4 c5 d0 d1 d2 d3 d4 d5
  obtain ⟨a0, a1, b0, b1, c0, c1, c2, c3, c4, c5, d0, d1, d2, d3, d4, d5⟩ := boxM w a b c d hbx

  go_wp2_with fail
  refine (HD.out _).mono ?_
  rintro e w2 ⟨rfl, hE2⟩
  have HE2 := hid (HE1.out.trans hE2)
  replace hbx := hbx.trans (hE2.below.mono (by have := hbx.size; simp at this; omega))
  clear hE2 a0 a1 b0 b1 c0 c1 c2 c3 c4 c5 d0 d1 d2 d3 d4 d5
  obtain ⟨a0, a1, b0, b1, c0, c1, c2, c3, c4, c5, d0, d1, d2, d3, d4, d5⟩ := boxM w a b c d hbx
  have HBB := hid (HE2.out.below)
  clear a0 a1 b0 b1 c0 c1 c2 c3 c4 c5 d0 d1 d2 d3 d4 d5 hbx
  go_wp2_with fail
  refine (IndexAwake _).mono ?_
  rintro e w9 ⟨rfl, hb9⟩
  have HF := hid (below_trans' HBB.out hb9)
  clear hb9
  go_wp2
  go_ret
  exact ⟨rfl, HF.out⟩

set_option maxRecDepth 100000 in
set_option maxHeartbeats 8000000 in
theorem IM_ab (w : World) (a b : Id) (c d : Cmd) (q : Int) (hc : greatB c = false) (hd : greatB d = false) (he : a = b) :
    Calls Try.prog 7 #[.agg #[.int .i64 a.r, .int .i64 a.n], .agg #[.int .i64 b.r, .int .i64 b.n], .agg #[.int .i64 c.kind, .int .i64 c.client, .int .i64 c.seq, .string c.key, .string c.val, .int .i64 c.rev], .agg #[.int .i64 d.kind, .int .i64 d.client, .int .i64 d.seq, .string d.key, .string d.val, .int .i64 d.rev], .int .i64 q] w fun e w' => e = .returned (.bool true) ∧ Below w.heap.size w w' := by
  have hE : Ext w ((((w.alloc (.cells #[.int .i64 a.r, .int .i64 a.n] 28)).alloc (.cells #[.int .i64 b.r, .int .i64 b.n] 28)).alloc (.cells #[.int .i64 c.kind, .int .i64 c.client, .int .i64 c.seq, .string c.key, .string c.val, .int .i64 c.rev] 49)).alloc (.cells #[.int .i64 d.kind, .int .i64 d.client, .int .i64 d.seq, .string d.key, .string d.val, .int .i64 d.rev] 49)) := ((((Ext.refl w).alloc _).alloc _).alloc _).alloc _
  have hbx : Below (w.heap.size + 4) ((((w.alloc (.cells #[.int .i64 a.r, .int .i64 a.n] 28)).alloc (.cells #[.int .i64 b.r, .int .i64 b.n] 28)).alloc (.cells #[.int .i64 c.kind, .int .i64 c.client, .int .i64 c.seq, .string c.key, .string c.val, .int .i64 c.rev] 49)).alloc (.cells #[.int .i64 d.kind, .int .i64 d.client, .int .i64 d.seq, .string d.key, .string d.val, .int .i64 d.rev] 49)) ((((w.alloc (.cells #[.int .i64 a.r, .int .i64 a.n] 28)).alloc (.cells #[.int .i64 b.r, .int .i64 b.n] 28)).alloc (.cells #[.int .i64 c.kind, .int .i64 c.client, .int .i64 c.seq, .string c.key, .string c.val, .int .i64 c.rev] 49)).alloc (.cells #[.int .i64 d.kind, .int .i64 d.client, .int .i64 d.seq, .string d.key, .string d.val, .int .i64 d.rev] 49)) := Below.refl _ _
  have hC := fun W => Great_any c W
  have hD := fun W => Great_any d W
  have heq := run_eql_id a b
  rw [hc] at hC
  rw [hd] at hD
  rw [decide_eq_true he] at heq
  clear he

  have HG := hid hC
  have HD := hid hD
  have HE := hid hE
  clear hC hD hE
  obtain ⟨a0, a1, b0, b1, c0, c1, c2, c3, c4, c5, d0, d1, d2, d3, d4, d5⟩ := boxM w a b c d hbx
  go_enter Try.func7, Try.ntmps7
  go_wp2_with fail
  refine (HG.out _).mono ?_
  rintro e w1 ⟨rfl, hE1⟩
  replace hbx := hbx.trans (hE1.below.mono (by simp))
  have HE1 := hid (HE.out.trans hE1)
  clear hE1 a0 a1 b0 b1 c0 c1 c2 c3 c4 c5 d0 d1 d2 d3 d4 d5
  obtain ⟨a0, a1, b0, b1, c0, c1, c2, c3, c4, c5, d0, d1, d2, d3, d4, d5⟩ := boxM w a b c d hbx

  go_wp2_with fail
  refine (HD.out _).mono ?_
  rintro e w2 ⟨rfl, hE2⟩
  have HE2 := hid (HE1.out.trans hE2)
  replace hbx := hbx.trans (hE2.below.mono (by have := hbx.size; simp at this; omega))
  clear hE2 a0 a1 b0 b1 c0 c1 c2 c3 c4 c5 d0 d1 d2 d3 d4 d5
  obtain ⟨a0, a1, b0, b1, c0, c1, c2, c3, c4, c5, d0, d1, d2, d3, d4, d5⟩ := boxM w a b c d hbx
  have HBB := hid (HE2.out.below)
  clear hbx
  go_wp2_with fail
  refine (IndexAwake _).mono ?_
  rintro e w9 ⟨rfl, hb9⟩
  have HF := hid (below_trans' HBB.out hb9)
  clear hb9
  go_wp2
  go_ret
  exact ⟨rfl, HF.out⟩

set_option maxRecDepth 100000 in
set_option maxHeartbeats 8000000 in
theorem IM_q (w : World) (a b : Id) (c d : Cmd) (q : Int) (hc : greatB c = false) (hd : greatB d = false) (he : a ≠ b) (hq : q < 0 ∨ 1099511627776 < q) :
    Calls Try.prog 7 #[.agg #[.int .i64 a.r, .int .i64 a.n], .agg #[.int .i64 b.r, .int .i64 b.n], .agg #[.int .i64 c.kind, .int .i64 c.client, .int .i64 c.seq, .string c.key, .string c.val, .int .i64 c.rev], .agg #[.int .i64 d.kind, .int .i64 d.client, .int .i64 d.seq, .string d.key, .string d.val, .int .i64 d.rev], .int .i64 q] w fun e w' => e = .returned (.bool true) ∧ Below w.heap.size w w' := by
  have hE : Ext w ((((w.alloc (.cells #[.int .i64 a.r, .int .i64 a.n] 28)).alloc (.cells #[.int .i64 b.r, .int .i64 b.n] 28)).alloc (.cells #[.int .i64 c.kind, .int .i64 c.client, .int .i64 c.seq, .string c.key, .string c.val, .int .i64 c.rev] 49)).alloc (.cells #[.int .i64 d.kind, .int .i64 d.client, .int .i64 d.seq, .string d.key, .string d.val, .int .i64 d.rev] 49)) := ((((Ext.refl w).alloc _).alloc _).alloc _).alloc _
  have hbx : Below (w.heap.size + 4) ((((w.alloc (.cells #[.int .i64 a.r, .int .i64 a.n] 28)).alloc (.cells #[.int .i64 b.r, .int .i64 b.n] 28)).alloc (.cells #[.int .i64 c.kind, .int .i64 c.client, .int .i64 c.seq, .string c.key, .string c.val, .int .i64 c.rev] 49)).alloc (.cells #[.int .i64 d.kind, .int .i64 d.client, .int .i64 d.seq, .string d.key, .string d.val, .int .i64 d.rev] 49)) ((((w.alloc (.cells #[.int .i64 a.r, .int .i64 a.n] 28)).alloc (.cells #[.int .i64 b.r, .int .i64 b.n] 28)).alloc (.cells #[.int .i64 c.kind, .int .i64 c.client, .int .i64 c.seq, .string c.key, .string c.val, .int .i64 c.rev] 49)).alloc (.cells #[.int .i64 d.kind, .int .i64 d.client, .int .i64 d.seq, .string d.key, .string d.val, .int .i64 d.rev] 49)) := Below.refl _ _
  have hC := fun W => Great_any c W
  have hD := fun W => Great_any d W
  have heq := run_eql_id a b
  rw [hc] at hC
  rw [hd] at hD
  rw [decide_eq_false he] at heq
  clear he

  have HG := hid hC
  have HD := hid hD
  have HE := hid hE
  clear hC hD hE
  obtain ⟨a0, a1, b0, b1, c0, c1, c2, c3, c4, c5, d0, d1, d2, d3, d4, d5⟩ := boxM w a b c d hbx
  go_enter Try.func7, Try.ntmps7
  go_wp2_with fail
  refine (HG.out _).mono ?_
  rintro e w1 ⟨rfl, hE1⟩
  replace hbx := hbx.trans (hE1.below.mono (by simp))
  have HE1 := hid (HE.out.trans hE1)
  clear hE1 a0 a1 b0 b1 c0 c1 c2 c3 c4 c5 d0 d1 d2 d3 d4 d5
  obtain ⟨a0, a1, b0, b1, c0, c1, c2, c3, c4, c5, d0, d1, d2, d3, d4, d5⟩ := boxM w a b c d hbx

  go_wp2_with fail
  refine (HD.out _).mono ?_
  rintro e w2 ⟨rfl, hE2⟩
  have HE2 := hid (HE1.out.trans hE2)
  replace hbx := hbx.trans (hE2.below.mono (by have := hbx.size; simp at this; omega))
  clear hE2 a0 a1 b0 b1 c0 c1 c2 c3 c4 c5 d0 d1 d2 d3 d4 d5
  obtain ⟨a0, a1, b0, b1, c0, c1, c2, c3, c4, c5, d0, d1, d2, d3, d4, d5⟩ := boxM w a b c d hbx
  by_cases hq0 : q < 0
  · have HBB := hid (HE2.out.below)
    clear hbx hq
    go_wp2_with fail
    refine (IndexAwake _).mono ?_
    rintro e w9 ⟨rfl, hb9⟩
    have HF := hid (below_trans' HBB.out hb9)
    clear hb9
    go_wp2
    go_ret
    exact ⟨rfl, HF.out⟩
  · have hq1 : 1099511627776 < q := by omega

    have HBB := hid (HE2.out.below)
    clear hbx hq
    go_wp2_with fail
    refine (IndexAwake _).mono ?_
    rintro e w9 ⟨rfl, hb9⟩
    have HF := hid (below_trans' HBB.out hb9)
    clear hb9
    go_wp2
    go_ret
    exact ⟨rfl, HF.out⟩

set_option maxRecDepth 100000 in
set_option maxHeartbeats 8000000 in
theorem IM_main (w : World) (a b : Id) (c d : Cmd) (q : Int) (hc : greatB c = false) (hd : greatB d = false) (he : a ≠ b) (hq0 : 0 ≤ q) (hq1 : q ≤ 1099511627776) :
    Calls Try.prog 7 #[.agg #[.int .i64 a.r, .int .i64 a.n], .agg #[.int .i64 b.r, .int .i64 b.n], .agg #[.int .i64 c.kind, .int .i64 c.client, .int .i64 c.seq, .string c.key, .string c.val, .int .i64 c.rev], .agg #[.int .i64 d.kind, .int .i64 d.client, .int .i64 d.seq, .string d.key, .string d.val, .int .i64 d.rev], .int .i64 q] w fun e w' => e = .returned (.bool true) ∧ Below w.heap.size w w' := by
  have hE : Ext w ((((w.alloc (.cells #[.int .i64 a.r, .int .i64 a.n] 28)).alloc (.cells #[.int .i64 b.r, .int .i64 b.n] 28)).alloc (.cells #[.int .i64 c.kind, .int .i64 c.client, .int .i64 c.seq, .string c.key, .string c.val, .int .i64 c.rev] 49)).alloc (.cells #[.int .i64 d.kind, .int .i64 d.client, .int .i64 d.seq, .string d.key, .string d.val, .int .i64 d.rev] 49)) := ((((Ext.refl w).alloc _).alloc _).alloc _).alloc _
  have hbx : Below (w.heap.size + 4) ((((w.alloc (.cells #[.int .i64 a.r, .int .i64 a.n] 28)).alloc (.cells #[.int .i64 b.r, .int .i64 b.n] 28)).alloc (.cells #[.int .i64 c.kind, .int .i64 c.client, .int .i64 c.seq, .string c.key, .string c.val, .int .i64 c.rev] 49)).alloc (.cells #[.int .i64 d.kind, .int .i64 d.client, .int .i64 d.seq, .string d.key, .string d.val, .int .i64 d.rev] 49)) ((((w.alloc (.cells #[.int .i64 a.r, .int .i64 a.n] 28)).alloc (.cells #[.int .i64 b.r, .int .i64 b.n] 28)).alloc (.cells #[.int .i64 c.kind, .int .i64 c.client, .int .i64 c.seq, .string c.key, .string c.val, .int .i64 c.rev] 49)).alloc (.cells #[.int .i64 d.kind, .int .i64 d.client, .int .i64 d.seq, .string d.key, .string d.val, .int .i64 d.rev] 49)) := Below.refl _ _
  have hC := fun W => Great_any c W
  have hD := fun W => Great_any d W
  have heq := run_eql_id a b
  rw [hc] at hC
  rw [hd] at hD
  rw [decide_eq_false he] at heq

  have HG := hid hC
  have HD := hid hD
  have HE := hid hE
  clear hC hD hE
  obtain ⟨a0, a1, b0, b1, c0, c1, c2, c3, c4, c5, d0, d1, d2, d3, d4, d5⟩ := boxM w a b c d hbx
  go_enter Try.func7, Try.ntmps7
  go_wp2_with fail
  refine (HG.out _).mono ?_
  rintro e w1 ⟨rfl, hE1⟩
  replace hbx := hbx.trans (hE1.below.mono (by simp))
  have HE1 := hid (HE.out.trans hE1)
  clear hE1 a0 a1 b0 b1 c0 c1 c2 c3 c4 c5 d0 d1 d2 d3 d4 d5
  obtain ⟨a0, a1, b0, b1, c0, c1, c2, c3, c4, c5, d0, d1, d2, d3, d4, d5⟩ := boxM w a b c d hbx

  go_wp2_with fail
  refine (HD.out _).mono ?_
  rintro e w2 ⟨rfl, hE2⟩
  have HE2 := hid (HE1.out.trans hE2)
  replace hbx := hbx.trans (hE2.below.mono (by have := hbx.size; simp at this; omega))
  clear hE2 a0 a1 b0 b1 c0 c1 c2 c3 c4 c5 d0 d1 d2 d3 d4 d5
  obtain ⟨a0, a1, b0, b1, c0, c1, c2, c3, c4, c5, d0, d1, d2, d3, d4, d5⟩ := boxM w a b c d hbx

  have hq0' : ¬ q < 0 := by omega
  have hq1' : ¬ 1099511627776 < q := by omega
  go_wp2_with fail
  refine (IxNew_any _).mono ?_
  rintro e w3 ⟨B, s0, rfl, hI, hla, hlk, hlc, hlw, hE3, hF⟩
  have hv := Inv.start hla hlk hlc hlw
  have hs2 : w.heap.size + 4 ≤ w2.heap.size := by have := hbx.size; simp at this; omega
  replace hbx := hbx.trans (hE3.below.mono hs2)
  have hF3 : ∀ g ∈ s0.blocks B, w.heap.size + 4 ≤ g := fun g hg => Nat.le_trans hs2 (hF g hg)
  clear hE3 hs2 hF heq a0 a1 b0 b1 c0 c1 c2 c3 c4 c5 d0 d1 d2 d3 d4 d5
  obtain ⟨a0, a1, b0, b1, c0, c1, c2, c3, c4, c5, d0, d1, d2, d3, d4, d5⟩ := boxM w a b c d hbx
  clear b0 b1 d0 d1 d2 d3 d4 d5
  have HE' := hid HE.out
  go_wp2_with fail
  refine (IxPut_any _ B s0 a c q hI hv).mono ?_
  rintro e w4 ⟨rfl, s, hI4, hv4, hla4, hlk4, hbl4, hk4⟩
  have hs3 : w.heap.size + 4 ≤ w3.heap.size := by have := hbx.size; simp at this; omega
  replace hbx := hbx.trans (hk4.below (by omega) (fun g hg => hF3 g hg))
  rw [hla] at hla4
  have hlaS : s.la = [(a, (c, q))] := hla4
  have hlkS : s.lk.length ≤ 200 := by rw [hlk] at hlk4; simp at hlk4; omega
  have hlaL : s.la.length ≤ 200 := by rw [hlaS]; simp
  have hlt := hI4.lt
  clear hI hv hla hlk hlc hlw hF3 hla4 hlk4 hbl4 hk4 hs3 a0 a1 c0 c1 c2 c3 c4 c5
  have HBX := hid hbx
  have HX : Hid (∀ W, Below w4.heap.size w4 W → MBox a b c d w W) := fun W hW => MBox.of HBX.out hW
  have HDP : Hid (∀ W, Below w4.heap.size w4 W → ∀ (x : Cmd) (y : Id), Calls Try.prog 29 #[.pointer (some ⟨B, 0, none⟩), .agg #[.int .i64 x.kind, .int .i64 x.client, .int .i64 x.seq, .string x.key, .string x.val, .int .i64 x.rev], .agg #[.int .i64 y.r, .int .i64 y.n]] W fun e w' => ∃ v, e = .returned v ∧ Rd encId 2 w' v (setR (metI s.la x y)) ∧ Below W.heap.size W w') := fun W hW x y => by
    refine (Deps_any W B s x y (hI4.below hW) hv4 hlkS hlaL).mono ?_
    rintro e w' ⟨v, D, rfl, hown, hD, hb⟩
    rw [deps_eq (hI4.below hW) x y hD] at hown
    exact ⟨v, rfl, hown.rd encId_len, hb⟩
  have HSQ : Hid (∀ W, Below w4.heap.size w4 W → ∀ (x : Cmd) (y : Id), Calls Try.prog 31 #[.pointer (some ⟨B, 0, none⟩), .agg #[.int .i64 x.kind, .int .i64 x.client, .int .i64 x.seq, .string x.key, .string x.val, .int .i64 x.rev], .agg #[.int .i64 y.r, .int .i64 y.n]] W fun e w' => e = .returned (.int .i64 (seqE s.la x y + 1)) ∧ Below W.heap.size W w') := fun W hW x y => by
    refine (Seq_any W B s x y (hI4.below hW) hv4 hlkS hlaL (fun i e hi => by
      have := mem_of_aget hi
      rw [hlaS, List.mem_singleton] at this
      cases this
      simp only
      omega)).mono ?_
    rintro e w' ⟨D, rfl, hD, hb⟩
    rw [seq_eq (hI4.below hW) x y hD]
    exact ⟨rfl, hb⟩
  have hM := fun W => Meet_any c d W
  have HD1 := hid (show setR (metI s.la d b) = if meetB c d then [a] else [] by rw [hlaS]; exact mt_has he)
  have HS1 := hid (show seqE s.la d b = if meetB c d = true ∧ 0 < q then q else 0 by rw [hlaS]; exact mt_seq he)
  have HD2 := hid (show setR (metI s.la c a) = [] by rw [hlaS, mt_self]; rfl)
  have HS2 := hid (show seqE s.la c a = 0 by rw [hlaS]; exact mt_selfq)
  have HSTR := hid (setR_strict (metI s.la d b))
  clear hI4 hv4 hlaS hlkS hlaL hbx hlt
  have HM := hid hM
  clear hM
  go_wp2_with fail
  refine wp_region_C (fun W => Below w4.heap.size w4 W) (by kernel_rfl) ?_
  have hC0 : (fun W => Below w4.heap.size w4 W) w4.drew := ((Ext.refl w4).drew).below
  refine takeC (i := 0) (v := ?_) rfl (by kernel_rfl) (by kernel_rfl) (by kernel_rfl) (fun _ _ _ h => h) (by assumption) (Or.inl ⟨?_, ?_⟩) (fun K hK => ?_)
  rotate_left
  · rfl
  · (intro W hW; obtain ⟨a0, a1, b0, b1, c0, c1, c2, c3, c4, c5, d0, d1, d2, d3, d4, d5⟩ := HX.out W hW; go_simp; first | done | with_reducible rfl)
  (try go_simp)
  refine hK _ _ ?_
  clear hK K
  refine takeC (i := 1) (v := ?_) rfl (by kernel_rfl) (by kernel_rfl) (by kernel_rfl) (fun _ _ _ h => h) (by assumption) (Or.inl ⟨?_, ?_⟩) (fun K hK => ?_)
  rotate_left
  · rfl
  · (intro W hW; obtain ⟨a0, a1, b0, b1, c0, c1, c2, c3, c4, c5, d0, d1, d2, d3, d4, d5⟩ := HX.out W hW; go_simp; first | done | with_reducible rfl)
  (try go_simp)
  refine hK _ _ ?_
  clear hK K
  refine takeC (i := 2) (v := ?_) rfl (by kernel_rfl) (by kernel_rfl) (by kernel_rfl) (fun _ _ _ h => h) (by assumption) (Or.inl ⟨?_, ?_⟩) (fun K hK => ?_)
  rotate_left
  · rfl
  · (intro W hW; obtain ⟨a0, a1, b0, b1, c0, c1, c2, c3, c4, c5, d0, d1, d2, d3, d4, d5⟩ := HX.out W hW; go_simp; first | done | with_reducible rfl)
  (try go_simp)
  refine hK _ _ ?_
  clear hK K
  refine takeC (i := 4) (v := ?_) rfl (by kernel_rfl) (by kernel_rfl) (by kernel_rfl) (fun _ _ _ h => h) (by assumption) (Or.inl ⟨?_, ?_⟩) (fun K hK => ?_)
  rotate_left
  · rfl
  · (intro W hW; obtain ⟨a0, a1, b0, b1, c0, c1, c2, c3, c4, c5, d0, d1, d2, d3, d4, d5⟩ := HX.out W hW; go_simp; first | done | with_reducible rfl)
  (try go_simp)
  refine hK _ _ ?_
  clear hK K
  refine callC (k := 3) (by kernel_rfl) rfl ?_ (fun K hK => ?_)
  · rfl
  go_simp
  refine (HDP.out _ hC0 d b).mono ?_
  rintro e w6 ⟨v6, rfl, hR6, hb6⟩
  have hC1 : (fun W => Below w4.heap.size w4 W) w6 := hC0.trans (hb6.mono (Nat.le_of_eq rfl))
  have HH6 := hid (show ∀ W, Below w6.heap.size w6 W → Rd encId 2 W v6 (setR (metI s.la d b)) from fun W hW => hR6.below hW)
  obtain ⟨a6, g6, o6, k6, rfl, _, hr6, _⟩ := hR6
  clear hb6 hC0
  go_wp2
  refine hK _ _ hC1 ?_
  clear hK K
  refine callC (k := 5) (by kernel_rfl) rfl ?_ (fun K hK => ?_)
  · rfl
  go_simp
  refine (Has_any _ a6 g6 o6 k6 _ a hr6 (by rw [HD1.out]; split <;> simp) HSTR.out).mono ?_
  rintro e w7 ⟨rfl, hb7⟩
  have hC2 : (fun W => Below w4.heap.size w4 W) w7 := hC1.trans (hb7.mono hC1.size)
  clear hb7 hC1 hr6 HH6
  go_wp2
  refine hK _ _ hC2 ?_
  clear hK K
  refine takeC (i := 6) (v := ?_) rfl (by kernel_rfl) (by kernel_rfl) (by kernel_rfl) (fun _ _ _ h => h) (by assumption) (Or.inl ⟨?_, ?_⟩) (fun K hK => ?_)
  rotate_left
  · rfl
  · (intro W hW; obtain ⟨a0, a1, b0, b1, c0, c1, c2, c3, c4, c5, d0, d1, d2, d3, d4, d5⟩ := HX.out W hW; go_simp; first | done | with_reducible rfl)
  (try go_simp)
  refine hK _ _ ?_
  clear hK K
  refine doneC (by kernel_rfl) ?_
  have HASV : Hid (decide (a ∈ setR (metI s.la d b)) = meetB c d) := by
    show decide (a ∈ setR (metI s.la d b)) = meetB c d
    rw [HD1.out]
    cases meetB c d <;> simp
  rw [HASV.out]
  cases hm : meetB c d
  case false =>
    rw [hm] at HS1 HM
    obtain ⟨a0, a1, b0, b1, c0, c1, c2, c3, c4, c5, d0, d1, d2, d3, d4, d5⟩ := HX.out _ hC2
    go_wp2_with fail
    refine (HM.out _).mono ?_
    rintro e w8 ⟨rfl, hE8⟩
    replace hC2 : Below w4.heap.size w4 w8 := Below.trans hC2 (hE8.below.mono (Below.size hC2))
    clear hE8 a0 a1 b0 b1 c0 c1 c2 c3 c4 c5 d0 d1 d2 d3 d4 d5
    obtain ⟨a0, a1, b0, b1, c0, c1, c2, c3, c4, c5, d0, d1, d2, d3, d4, d5⟩ := HX.out _ hC2
    go_wp2_with fail
    refine (HSQ.out _ hC2 d b).mono ?_
    rintro e w9 ⟨rfl, hb9⟩
    replace hC2 : Below w4.heap.size w4 w9 := Below.trans hC2 (hb9.mono (Below.size hC2))
    have hsv : seqE s.la d b + 1 = 1 := by rw [HS1.out]; simp
    rw [hsv]
    clear hb9 hsv a0 a1 b0 b1 c0 c1 c2 c3 c4 c5 d0 d1 d2 d3 d4 d5
    obtain ⟨a0, a1, b0, b1, c0, c1, c2, c3, c4, c5, d0, d1, d2, d3, d4, d5⟩ := HX.out _ hC2
    go_wp2_with fail
    refine (HDP.out _ hC2 c a).mono ?_
    rintro e w10 ⟨v10, rfl, hR10, hb10⟩
    replace hC2 : Below w4.heap.size w4 w10 := Below.trans hC2 (hb10.mono (Below.size hC2))
    rw [HD2.out] at hR10
    obtain ⟨a10, g10, o10, k10, rfl, _, _, _⟩ := hR10
    clear hb10 a0 a1 b0 b1 c0 c1 c2 c3 c4 c5 d0 d1 d2 d3 d4 d5
    obtain ⟨a0, a1, b0, b1, c0, c1, c2, c3, c4, c5, d0, d1, d2, d3, d4, d5⟩ := HX.out _ hC2
    simp only [List.length_nil]
    go_wp2_with fail
    refine (HSQ.out _ hC2 c a).mono ?_
    rintro e w11 ⟨rfl, hb11⟩
    replace hC2 : Below w4.heap.size w4 w11 := Below.trans hC2 (hb11.mono (Below.size hC2))
    rw [HS2.out]
    clear hb11 a0 a1 b0 b1 c0 c1 c2 c3 c4 c5 d0 d1 d2 d3 d4 d5
    have HB9 := hid (show Below w.heap.size w w11 from HE.out.below.trans ((HBX.out.mono (by omega)).trans (Below.mono hC2 (by have := HBX.out.size; simp at this; omega))))
    clear hC2
    go_wp2_with fail
    refine (IndexAwake _).mono ?_
    rintro e w12 ⟨rfl, hb12⟩
    have HF := hid (below_trans' HB9.out hb12)
    clear hb12
    go_wp2
    go_ret
    exact ⟨rfl, HF.out⟩
  case true =>
    rw [hm] at HS1 HM
    obtain ⟨a0, a1, b0, b1, c0, c1, c2, c3, c4, c5, d0, d1, d2, d3, d4, d5⟩ := HX.out _ hC2
    go_wp2_with fail
    refine (HM.out _).mono ?_
    rintro e w8 ⟨rfl, hE8⟩
    replace hC2 : Below w4.heap.size w4 w8 := Below.trans hC2 (hE8.below.mono (Below.size hC2))
    clear hE8 a0 a1 b0 b1 c0 c1 c2 c3 c4 c5 d0 d1 d2 d3 d4 d5
    obtain ⟨a0, a1, b0, b1, c0, c1, c2, c3, c4, c5, d0, d1, d2, d3, d4, d5⟩ := HX.out _ hC2
    go_wp2_with fail
    refine (HSQ.out _ hC2 d b).mono ?_
    rintro e w9 ⟨rfl, hb9⟩
    replace hC2 : Below w4.heap.size w4 w9 := Below.trans hC2 (hb9.mono (Below.size hC2))
    obtain ⟨n, hn⟩ : ∃ n, n = seqE s.la d b + 1 := ⟨_, rfl⟩
    have hsv : ¬ n ≤ q := by
      rw [hn, HS1.out]
      split
      · omega
      · rename_i h1
        simp only [true_and] at h1
        omega
    rw [← hn]
    clear hb9 hn a0 a1 b0 b1 c0 c1 c2 c3 c4 c5 d0 d1 d2 d3 d4 d5
    obtain ⟨a0, a1, b0, b1, c0, c1, c2, c3, c4, c5, d0, d1, d2, d3, d4, d5⟩ := HX.out _ hC2
    go_wp2_with fail
    refine (HDP.out _ hC2 c a).mono ?_
    rintro e w10 ⟨v10, rfl, hR10, hb10⟩
    replace hC2 : Below w4.heap.size w4 w10 := Below.trans hC2 (hb10.mono (Below.size hC2))
    rw [HD2.out] at hR10
    obtain ⟨a10, g10, o10, k10, rfl, _, _, _⟩ := hR10
    clear hb10 a0 a1 b0 b1 c0 c1 c2 c3 c4 c5 d0 d1 d2 d3 d4 d5
    obtain ⟨a0, a1, b0, b1, c0, c1, c2, c3, c4, c5, d0, d1, d2, d3, d4, d5⟩ := HX.out _ hC2
    simp only [List.length_nil]
    go_wp2_with fail
    refine (HSQ.out _ hC2 c a).mono ?_
    rintro e w11 ⟨rfl, hb11⟩
    replace hC2 : Below w4.heap.size w4 w11 := Below.trans hC2 (hb11.mono (Below.size hC2))
    rw [HS2.out]
    clear hb11 a0 a1 b0 b1 c0 c1 c2 c3 c4 c5 d0 d1 d2 d3 d4 d5
    have HB9 := hid (show Below w.heap.size w w11 from HE.out.below.trans ((HBX.out.mono (by omega)).trans (Below.mono hC2 (by have := HBX.out.size; simp at this; omega))))
    clear hC2
    go_wp2_with fail
    refine (IndexAwake _).mono ?_
    rintro e w12 ⟨rfl, hb12⟩
    have HF := hid (below_trans' HB9.out hb12)
    clear hb12
    go_wp2
    go_ret
    exact ⟨rfl, HF.out⟩

theorem IndexMeets_any (w : World) (a b : Id) (c d : Cmd) (q : Int) (_ : I64 q) :
    Calls Try.prog 7 #[.agg #[.int .i64 a.r, .int .i64 a.n], .agg #[.int .i64 b.r, .int .i64 b.n], .agg #[.int .i64 c.kind, .int .i64 c.client, .int .i64 c.seq, .string c.key, .string c.val, .int .i64 c.rev], .agg #[.int .i64 d.kind, .int .i64 d.client, .int .i64 d.seq, .string d.key, .string d.val, .int .i64 d.rev], .int .i64 q] w fun e w' => e = .returned (.bool true) ∧ Below w.heap.size w w' := by
  cases hc : greatB c
  case true => exact IM_c w a b c d q hc
  case false =>
    cases hd : greatB d
    case true => exact IM_d w a b c d q hc hd
    case false =>
      by_cases he : a = b
      · exact IM_ab w a b c d q hc hd he
      · by_cases hq : q < 0 ∨ 1099511627776 < q
        · exact IM_q w a b c d q hc hd he hq
        · exact IM_main w a b c d q hc hd he (by omega) (by omega)
end Go.Proofs.Ytlepfohhfngndaa
