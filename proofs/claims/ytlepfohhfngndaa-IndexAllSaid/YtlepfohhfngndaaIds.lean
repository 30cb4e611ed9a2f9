/- Slices of ids, and the document's functions on them: Has, add, Set, Equal, Without. -/
import Derived.Test.YtlepfohhfngndaaSlice
import Derived.Test.YtlepfohhfngndaaCmp
namespace Go.Proofs.Ytlepfohhfngndaa
open Go Go.RowKit Go.MapKept Go.ChangeMaps Go.Maps

theorem lessId_iff (x y : Id) : lessId x y = true ↔ (x.n < y.n ∨ x.n = y.n ∧ x.r < y.r) := by unfold lessId; simp
theorem lessId_not (x y : Id) : lessId x y = false ↔ ¬ (x.n < y.n ∨ x.n = y.n ∧ x.r < y.r) := by unfold lessId; simp
theorem encId_len (i : Id) : (encId i).length = 2 := rfl
theorem sizeId : ∀ W, (sizeOf 28).run Try.prog W = .ok 2 W := fun W => by kernel_rfl
theorem aggId : ∀ W, (isAgg 28).run Try.prog W = .ok true W := fun W => by kernel_rfl
theorem infoId : (Try.prog.info? 28).map (fun i => (i.zero, i.size, i.bytes)) = some (some (.agg #[.int .i64 0, .int .i64 0]), 2, 16) := by kernel_rfl
theorem oneId : ∀ x : Id, ∀ u ∈ encId x, u.oneCell' = true := fun x u hu => by simp [encId] at hu; rcases hu with rfl | rfl <;> rfl
theorem elemId : ElemT Try.prog 40 28 encId 2 16 := by
  obtain ⟨i, hi, hz0, hz1, hz2⟩ := info_parts infoId
  exact ⟨Try.underlying40, ⟨i, _, hi, hz0, hz1, hz2, rfl⟩, encId_len, by omega, oneId, by omega⟩


theorem take_snocI {l : List Id} {k : Nat} (h : k < l.length) : l.take (k + 1) = l.take k ++ [l[k]] := List.take_succ_eq_append_getElem h
theorem RdI0 {w : World} {a : Option Addr} {g off : Nat} {l : List Id} (h : RdS encId 2 w a g off l) {k : Nat} (hk : k < l.length) : w.cell? ⟨g, off + k * 2, none⟩ = some (.int .i64 l[k].r) := h.cells k l[k] (by simp [hk]) 0 _ rfl
theorem RdI1 {w : World} {a : Option Addr} {g off : Nat} {l : List Id} (h : RdS encId 2 w a g off l) {k : Nat} (hk : k < l.length) : w.cell? ⟨g, off + k * 2 + 1, none⟩ = some (.int .i64 l[k].n) := h.cells k l[k] (by simp [hk]) 1 _ rfl

set_option maxRecDepth 100000 in
set_option maxHeartbeats 800000 in
theorem RefHas_any (w : World) (a : Option Addr) (g off cap : Nat) (l : List Id) (i : Id) (h : RdS encId 2 w a g off l) (hl : l.length ≤ 100000) :
    Calls Try.prog 50 #[.slice a l.length cap, .agg #[.int .i64 i.r, .int .i64 i.n]] w fun e w' => e = .returned (.bool (decide (i ∈ l))) ∧ Ext w w' := by
  go_enter Try.func50, Try.ntmps50
  go_wp2
  go_loopw [5] (fun s5 wr => ∃ k : Nat, k ≤ l.length ∧ s5 = .int .i64 k ∧ i ∉ l.take k ∧ Ext (w.alloc (.cells #[.int .i64 i.r, .int .i64 i.n] 28)) wr) (fun s5 _ => l.length - (intOf s5).toNat)
  case atStart => exact ⟨0, Nat.zero_le _, rfl, by simp, Ext.refl _⟩
  case round =>
    obtain ⟨k, hk, rfl, hno, hb⟩ := hrel
    have hbw : Ext w wr := ((Ext.refl w).alloc _).trans hb
    by_cases hlt : k < l.length
    · have hx := h.index (P := Try.prog) Try.underlying40 sizeId hlt cap
      have h1 := h.below hbw.below
      have c0 := RdI0 h1 hlt
      have c1 := RdI1 h1 hlt
      have d0 : wr.cell? ⟨w.heap.size, 0, none⟩ = some (.int .i64 i.r) := by rw [hb.below.cell (p := ⟨w.heap.size, 0, none⟩) (by simp)]; simp
      have d1 : wr.cell? ⟨w.heap.size, 1, none⟩ = some (.int .i64 i.n) := by rw [hb.below.cell (p := ⟨w.heap.size, 1, none⟩) (by simp)]; simp
      have hsnoc := take_snocI hlt
      have hne := run_eql_id l[k] i
      have hmem : l[k] ∈ l := List.getElem_mem hlt
      generalize l[k] = x at *
      by_cases hxi : x = i
      · have HF := hid (show decide (i ∈ l) = true by subst hxi; simpa using hmem)
        have hd : decide (x = i) = true := by simpa using hxi
        rw [hd] at hne
        have HB := hid hbw
        clear hsnoc hxi hd h h1 hno hmem hb hbw
        go_wp2
        go_quiet (fail)
        go_wp2
        go_ret
        exact ⟨by rw [HF.out]; rfl, HB.out.drewN _⟩
      · have hd : decide (x = i) = false := by simpa using hxi
        rw [hd] at hne
        have hno' : i ∉ l.take (k + 1) := by
          rw [hsnoc]
          simp only [List.mem_append, List.mem_singleton, not_or]
          exact ⟨hno, fun e => hxi e.symm⟩
        have HN := hid hno'
        have HB := hid hb
        clear hsnoc hxi hd h h1 hno hmem hno' hb hbw
        go_wp2
        go_quiet (fail)
        go_wp2
        go_roundw
        case rel => exact ⟨k + 1, by omega, by go_num, HN.out, HB.out.drewN _⟩
        case measure => simp [intOf]; omega
    · have hk' : l.take k = l := List.take_of_length_le (by omega)
      rw [hk'] at hno
      have HF := hid (show decide (i ∈ l) = false by simpa using hno)
      have HB := hid hbw
      clear hno h hk' hb hbw
      go_wp2
      go_ret
      exact ⟨by rw [HF.out]; rfl, HB.out⟩

set_option maxRecDepth 100000 in
set_option maxHeartbeats 800000 in
theorem RefEqual_any (w : World) (a : Option Addr) (g off cap : Nat) (l : List Id) (a' : Option Addr) (g' off' cap' : Nat) (m : List Id) (h : RdS encId 2 w a g off l) (h' : RdS encId 2 w a' g' off' m) (hl : l.length ≤ 100000) (hm : m.length ≤ 100000) :
    Calls Try.prog 28 #[.slice a l.length cap, .slice a' m.length cap'] w fun e w' => e = .returned (.bool (decide (l = m))) ∧ Ext w w' := by
  by_cases hlm : l.length = m.length
  · have hlm' : ((l.length : Int) == (m.length : Int)) = true := by rw [hlm]; simp
    have HLM := hid hlm
    go_enter Try.func28, Try.ntmps28
    clear hlm
    go_wp2
    go_loopw [5] (fun s5 wr => ∃ k : Nat, k ≤ l.length ∧ s5 = .int .i64 k ∧ l.take k = m.take k ∧ Ext w wr) (fun s5 _ => l.length - (intOf s5).toNat)
    case atStart => exact ⟨0, Nat.zero_le _, rfl, by simp, Ext.refl _⟩
    case round =>
      obtain ⟨k, hk, rfl, hno, hb⟩ := hrel
      by_cases hlt : k < l.length
      · have hltm : k < m.length := by have := HLM.out; omega
        have hx := h.index (P := Try.prog) Try.underlying40 sizeId hlt cap
        have hy := h'.index (P := Try.prog) Try.underlying40 sizeId hltm cap'
        have h1 := h.below hb.below
        have h2 := h'.below hb.below
        have c0 := RdI0 h1 hlt
        have c1 := RdI1 h1 hlt
        have d0 := RdI0 h2 hltm
        have d1 := RdI1 h2 hltm
        have hsnoc := take_snocI hlt
        have hsnoc' := take_snocI hltm
        have hne := run_neq_id l[k] m[k]
        have hgl : l[k]? = some l[k] := by simp [hlt]
        have hgm : m[k]? = some m[k] := by simp [hltm]
        generalize l[k] = x at *
        generalize m[k] = y at *
        by_cases hxi : x = y
        · have hd : decide (x = y) = true := by simpa using hxi
          rw [hd] at hne
          have HN := hid (show l.take (k + 1) = m.take (k + 1) by rw [hsnoc, hsnoc', hno, hxi])
          have HB := hid hb
          clear hsnoc hsnoc' hxi hd h1 h2 hno hb hgl hgm
          go_wp2
          go_quiet (fail)
          go_wp2
          go_roundw
          case rel => exact ⟨k + 1, by omega, by go_num, HN.out, HB.out.drewN _⟩
          case measure => simp [intOf]; omega
        · have hd : decide (x = y) = false := by simpa using hxi
          rw [hd] at hne
          have HF := hid (show decide (l = m) = false by
            simp only [decide_eq_false_iff_not]
            intro e
            rw [e, hgm] at hgl
            exact hxi (Option.some.inj hgl).symm)
          have HB := hid hb
          clear hsnoc hsnoc' hxi hd h1 h2 hno hb hgl hgm
          go_wp2
          go_quiet (fail)
          go_wp2
          go_ret
          exact ⟨by rw [HF.out]; rfl, HB.out.drewN _⟩
      · have hk' : l.take k = l := List.take_of_length_le (by omega)
        have hk'' : m.take k = m := List.take_of_length_le (by have := HLM.out; omega)
        rw [hk', hk''] at hno
        have HF := hid (show decide (l = m) = true by simpa using hno)
        have HB := hid hb
        clear hno h h' hk' hk'' hb
        go_wp2
        go_ret
        exact ⟨by rw [HF.out]; rfl, HB.out⟩
  · have hlm' : ((l.length : Int) == (m.length : Int)) = false := beq_eq_false_iff_ne.2 (by omega)
    have HF := hid (show decide (l = m) = false by simp only [decide_eq_false_iff_not]; exact fun e => hlm (by rw [e]))
    clear hlm
    go_enter Try.func28, Try.ntmps28
    go_wp2
    go_ret
    exact ⟨by rw [HF.out]; rfl, Ext.refl _⟩

/-- The ids but one. -/
def delI (l : List Id) (i : Id) : List Id := l.filter (fun x => decide (x ≠ i))
theorem delI_snoc (l : List Id) (i : Id) (k : Nat) (hk : k < l.length) : delI (l.take (k + 1)) i = if l[k] = i then delI (l.take k) i else delI (l.take k) i ++ [l[k]] := by
  unfold delI
  rw [List.take_succ_eq_append_getElem hk, List.filter_append]
  by_cases h : l[k] = i
  · rw [if_pos h]; simp [h]
  · rw [if_neg h]; simp [h]

set_option maxRecDepth 100000 in
set_option maxHeartbeats 800000 in
theorem RefWithout_any (w : World) (a : Option Addr) (g off cap : Nat) (l : List Id) (i : Id) (h : RdS encId 2 w a g off l) (hl : l.length ≤ 100000) :
    Calls Try.prog 33 #[.slice a l.length cap, .agg #[.int .i64 i.r, .int .i64 i.n]] w fun e w' => ∃ v, e = .returned v ∧ Owns w.heap.size 28 encId 2 w' v (delI l i) ∧ Below w.heap.size w w' := by
  go_enter Try.func33, Try.ntmps33
  go_wp2
  go_loopw [5, 6] (fun s5 s6 wr => ∃ k : Nat, k ≤ l.length ∧ s6 = .int .i64 k ∧ Owns (w.heap.size + 1) 28 encId 2 wr s5 (delI (l.take k) i) ∧ Below (w.heap.size + 1) (w.alloc (.cells #[.int .i64 i.r, .int .i64 i.n] 28)) wr) (fun _ s6 _ => l.length - (intOf s6).toNat)
  case atStart => exact ⟨0, Nat.zero_le _, rfl, Owns.nil _ _ _ _ _, Below.refl _ _⟩
  case round =>
    obtain ⟨k, hk, rfl, hown, hb⟩ := hrel
    have hbw : Below w.heap.size w wr := ((Ext.refl w).alloc _).below.trans (hb.mono (by omega))
    have hsz := hb.size
    simp at hsz
    by_cases hlt : k < l.length
    · have hx := h.index (P := Try.prog) Try.underlying40 sizeId hlt cap
      have h1 := h.below hbw
      have c0 := RdI0 h1 hlt
      have c1 := RdI1 h1 hlt
      have d0 : wr.cell? ⟨w.heap.size, 0, none⟩ = some (.int .i64 i.r) := by rw [hb.cell (p := ⟨w.heap.size, 0, none⟩) (by simp)]; simp
      have d1 : wr.cell? ⟨w.heap.size, 1, none⟩ = some (.int .i64 i.n) := by rw [hb.cell (p := ⟨w.heap.size, 1, none⟩) (by simp)]; simp
      have hsnoc := delI_snoc l i k hlt
      have hne := run_neq_id l[k] i
      have hlen : (delI (l.take k) i).length ≤ k := Nat.le_trans (List.length_filter_le _ _) (List.length_take_le _ _)
      generalize l[k] = x at *
      by_cases hxi : x = i
      · rw [if_pos hxi] at hsnoc
        have hd : decide (x = i) = true := by simpa using hxi
        rw [hd] at hne
        have HS := hid hsnoc
        have HB := hid hb
        clear hsnoc hxi hd h h1 hb hbw
        go_wp2
        go_quiet (fail)
        go_wp2
        go_roundw
        case rel => exact ⟨k + 1, by omega, by go_num, by rw [HS.out]; exact hown, bdrewN HB.out _⟩
        case measure => simp [intOf]; omega
      · rw [if_neg hxi] at hsnoc
        have hd : decide (x = i) = false := by simpa using hxi
        rw [hd] at hne
        have HS := hid hsnoc
        have HB := hid hb
        clear hsnoc hxi hd h h1 hb hbw
        go_wp2
        go_quiet (fail)
        go_wp2_with (at_builtin; refine wpList_push elemId rfl _ _ rfl (w.heap.size + 1) _ (delI (l.take k) i) rfl ((hown.alloc _).drewN nq) wr.heap.size 1 x rfl (cells_new _ _ _) (by omega) (by simp; omega) ?_; intro v' w1 hown' hgrow)
        go_roundw
        case rel => exact ⟨k + 1, by omega, by go_num, by rw [HS.out]; exact hown', Owns.push ((hown.alloc _).drewN nq) (bdrewN (HB.out.alloc (by omega) _) nq) hgrow (by simp; omega)⟩
        case measure => simp [intOf]; omega
    · have hk' : l.take k = l := List.take_of_length_le (by omega)
      rw [hk'] at hown
      have HB := hid hbw
      clear hk' h hb hbw
      go_wp2
      go_ret
      exact ⟨_, rfl, hown.mono (by omega), HB.out⟩

/-- Elements in their order, with one more: the text's own loop. -/
def insG {α : Type} (lt : α → α → Bool) (t : α) : List α → Bool → List α × Bool
  | [], d => ([], d)
  | x :: r, d => if !d && lt t x then (let z := insG lt t r true; (t :: x :: z.1, z.2)) else (let z := insG lt t r d; (x :: z.1, z.2))
def addG {α : Type} (lt : α → α → Bool) (l : List α) (t : α) : List α := let z := insG lt t l false; if z.2 then z.1 else z.1 ++ [t]
theorem insG_snoc {α : Type} (lt : α → α → Bool) (t x : α) : ∀ (l : List α) (d : Bool), insG lt t (l ++ [x]) d =
    if !(insG lt t l d).2 && lt t x then ((insG lt t l d).1 ++ [t, x], true) else ((insG lt t l d).1 ++ [x], (insG lt t l d).2)
  | [], d => by
    simp only [List.nil_append, insG]
    by_cases h : (!d && lt t x) = true
    · simp only [h, if_true]
    · simp only [h, Bool.false_eq_true, if_false]
  | y :: r, d => by
    simp only [List.cons_append, insG]
    by_cases h : (!d && lt t y) = true
    · simp only [h, if_true]
      rw [insG_snoc lt t x r true]
      split <;> simp
    · simp only [h, Bool.false_eq_true, if_false]
      rw [insG_snoc lt t x r d]
      split <;> simp
theorem insG_len {α : Type} (lt : α → α → Bool) (t : α) : ∀ (l : List α) (d : Bool), (insG lt t l d).1.length ≤ l.length + if d then 0 else 1
  | [], d => by simp [insG]
  | y :: r, d => by
    simp only [insG]
    have h1 := insG_len lt t r true
    have h2 := insG_len lt t r d
    split
    · rename_i h
      have : d = false := by cases d <;> simp_all
      subst this
      simp at h1 ⊢
      omega
    · simp only [List.length_cons]
      omega
theorem insG_true {α : Type} (lt : α → α → Bool) (t : α) : ∀ l : List α, insG lt t l true = (l, true)
  | [] => rfl
  | x :: r => by simp only [insG, Bool.not_true, Bool.false_and, Bool.false_eq_true, if_false, insG_true lt t r]
theorem addG_cons {α : Type} (lt : α → α → Bool) (t x : α) (r : List α) : addG lt (x :: r) t = if lt t x then t :: x :: r else x :: addG lt r t := by
  unfold addG
  simp only [insG, Bool.not_false, Bool.true_and]
  by_cases h : lt t x = true
  · simp only [h, if_true, insG_true]
  · simp only [h, Bool.false_eq_true, if_false]
    split <;> rfl
theorem addG_perm {α : Type} (lt : α → α → Bool) (t : α) : ∀ l : List α, (addG lt l t).Perm (t :: l)
  | [] => by simp [addG, insG]
  | x :: r => by
    rw [addG_cons]
    split
    · exact List.Perm.refl _
    · exact ((addG_perm lt t r).cons x).trans (List.Perm.swap _ _ _)
theorem addG_len {α : Type} (lt : α → α → Bool) (t : α) (l : List α) : (addG lt l t).length = l.length + 1 := (addG_perm lt t l).length_eq

set_option maxRecDepth 100000 in
set_option maxHeartbeats 1600000 in
theorem RefAdd_any (w : World) (aL : Option Addr) (gL oL cL : Nat) (L : List Id) (t : Id) (hrL0 : RdS encId 2 w aL gL oL L) (hn : L.length ≤ 50000) :
    Calls Try.prog 51 #[.slice aL L.length cL, .agg #[.int .i64 t.r, .int .i64 t.n]] w fun e w' => ∃ v, e = .returned v ∧ Owns w.heap.size 28 encId 2 w' v (addG lessId L t) ∧ Below w.heap.size w w' := by
  have hbx : Below w.heap.size w (w.alloc (.cells #[.int .i64 t.r, .int .i64 t.n] 28)) := ((Ext.refl w).alloc _).below
  have HR : addG lessId L t = addG lessId L t := rfl
  go_enter Try.func51, Try.ntmps51
  clear HR
  go_wp2_with fail
  go_loopw [5, 6, 7] (fun s5 s6 s7 wr => ∃ k : Nat, k ≤ L.length ∧ s7 = .int .i64 k ∧ s6 = .bool (insG lessId t (L.take k) false).2 ∧ Owns (w.heap.size + 1) 28 encId 2 wr s5 (insG lessId t (L.take k) false).1 ∧ Below (w.heap.size + 1) (w.alloc (.cells #[.int .i64 t.r, .int .i64 t.n] 28)) wr) (fun _ _ s7 _ => L.length - (intOf s7).toNat)
  case atStart => exact ⟨0, Nat.zero_le _, rfl, rfl, Owns.nil _ _ _ _ _, Below.refl _ _⟩
  case round =>
    obtain ⟨k, hk, rfl, rfl, hown, hb⟩ := hrel
    have hlen := insG_len lessId t (L.take k) false
    have hlen2 : (L.take k).length ≤ 50000 := Nat.le_trans (List.length_take_le' _ _) hn
    have hbw : Below w.heap.size w wr := hbx.trans (hb.mono (by omega))
    have tcells : ∀ W, Below (w.heap.size + 1) (w.alloc (.cells #[.int .i64 t.r, .int .i64 t.n] 28)) W → W.cell? ⟨w.heap.size, 0, none⟩ = some (.int .i64 t.r) ∧ W.cell? ⟨w.heap.size, 1, none⟩ = some (.int .i64 t.n) := fun W hW =>
      ⟨by rw [hW.cell (p := ⟨w.heap.size, 0, none⟩) (by simp)]; simp, by rw [hW.cell (p := ⟨w.heap.size, 1, none⟩) (by simp)]; simp⟩
    have hsz := hb.size
    simp at hsz
    by_cases hlt : k < L.length
    · have hx := hrL0.index (P := Try.prog) Try.underlying40 sizeId hlt cL
      have xcells : ∀ W, Below w.heap.size w W → W.cell? ⟨gL, oL + k * 2, none⟩ = some (.int .i64 L[k].r) ∧ W.cell? ⟨gL, oL + k * 2 + 1, none⟩ = some (.int .i64 L[k].n) := fun W hW =>
        ⟨RdI0 (hrL0.below hW) hlt, RdI1 (hrL0.below hW) hlt⟩
      have hgl : gL < w.heap.size := hrL0.lt (by intro e; subst e; simp at hlt)
      have hsnoc := take_snocI hlt
      have hins := insG_snoc lessId t L[k] (L.take k) false
      rw [← hsnoc] at hins
      generalize L[k] = x at *
      generalize (insG lessId t (L.take k) false) = z at *
      obtain ⟨zl, zd⟩ := z
      simp only at hlen hown hins
      clear hsnoc
      have TC := hid tcells
      have XC := hid xcells
      have HBX := hid hbx
      clear tcells xcells hbx
      by_cases hzd : zd = true
      · subst hzd
        simp only [Bool.not_true, Bool.false_and, Bool.false_eq_true, if_false] at hins
        have HI := hid hins
        clear hins
        obtain ⟨f0, f1⟩ := TC.out wr hb
        obtain ⟨c0, c1⟩ := XC.out wr hbw
        go_wp2_with fail
        go_quiet (fail)
        go_wp2_with (at_builtin; refine wpList_push elemId rfl _ _ rfl (w.heap.size + 1) _ zl rfl ((hown.alloc _).drewN nq) wr.heap.size 1 x rfl (cells_new _ _ _) (by simp at hlen; omega) (by simp; omega) ?_; intro v' w2 hown' hgrow)
        go_roundw
        case rel => exact ⟨k + 1, by omega, by go_num, by rw [HI.out], by rw [HI.out]; exact hown', Owns.push ((hown.alloc _).drewN nq) (bdrewN (hb.alloc (by omega) _) nq) hgrow (by simp; omega)⟩
        case measure => simp [intOf]; omega
      · have hzf : zd = false := by cases zd <;> simp_all
        subst hzf
        clear hzd
        simp only [Bool.not_false, Bool.true_and] at hins
        have hA := fun W => RefLess_any t x W
        obtain ⟨f0, f1⟩ := TC.out wr hb
        obtain ⟨c0, c1⟩ := XC.out wr hbw
        have F0 := gcell (by omega) f0
        have F1 := gcell (by omega) f1
        have C0 := gcell (by omega) c0
        have C1 := gcell (by omega) c1
        clear f0 f1 c0 c1
        by_cases hat : lessId t x = true
        · rw [hat] at hA
          rw [if_pos hat] at hins
          have HI := hid hins
          have HA := hid hA
          clear hins hA hat
          go_wp2_with fail
          refine wp_region_quiet_grown (by kernel_rfl) (by kernel_rfl) ?_
          repeat (quiet_step ((go_at_call 56; exact Calls.grown_of (HA.out _))))
          refine wpQuiet_nil ?_
          intro _ hw'
          obtain ⟨⟨nq, osq⟩, hw''⟩ := hw'
          subst hw''
          clear F0 F1 C0 C1
          obtain ⟨wq, hwq⟩ : ∃ wq, wq = Sort.grow (wr.drewN nq) osq := ⟨_, rfl⟩
          have hE : Ext wr wq := ⟨nq, osq, hwq⟩
          rw [← hwq]
          clear hwq
          have hbq := hb.trans (hE.below.mono (by omega : w.heap.size + 1 ≤ wr.heap.size))
          have hbwq : Below w.heap.size w wq := below_trans' hbw hE.below
          have hownq := hown.ext hE
          have hqs := hE.size
          obtain ⟨f0, f1⟩ := TC.out wq hbq
          obtain ⟨c0, c1⟩ := XC.out wq hbwq
          go_wp2_with (first | (at_builtin; refine wpList_push elemId rfl _ _ rfl (w.heap.size + 1) _ zl rfl (hownq.alloc _) wq.heap.size 1 t rfl (cells_new _ _ _) (by simp at hlen; omega) (by simp; omega) ?_; intro v2 w2 hown2 hgrow2; have hb2 := Owns.push (hownq.alloc _) (hbq.alloc (by omega) _) hgrow2 (by simp; omega); have hs2 := hb2.size; simp at hs2; obtain ⟨c0', c1'⟩ := XC.out w2 (HBX.out.trans (hb2.mono (by omega)))) | (at_builtin; refine wpList_push elemId rfl _ _ rfl (w.heap.size + 1) _ (zl ++ [t]) rfl (hown2.alloc _) w2.heap.size 1 x rfl (cells_new _ _ _) (by simp at hlen ⊢; omega) (by simp; omega) ?_; intro v3 w3 hown3 hgrow3))
          go_roundw
          case rel => exact ⟨k + 1, by omega, by go_num, by rw [HI.out], by rw [HI.out]; rw [List.append_assoc] at hown3; exact hown3, Owns.push (hown2.alloc _) (hb2.alloc (by omega) _) hgrow3 (by simp; omega)⟩
          case measure => simp [intOf]; omega
        · rw [if_neg hat] at hins
          rw [show lessId t x = false by simpa using hat] at hA
          have HI := hid hins
          have HA := hid hA
          clear hins hA hat
          go_wp2_with fail
          refine wp_region_quiet_grown (by kernel_rfl) (by kernel_rfl) ?_
          repeat (quiet_step ((go_at_call 56; exact Calls.grown_of (HA.out _))))
          refine wpQuiet_nil ?_
          intro _ hw'
          obtain ⟨⟨nq, osq⟩, hw''⟩ := hw'
          subst hw''
          clear F0 F1 C0 C1
          obtain ⟨wq, hwq⟩ : ∃ wq, wq = Sort.grow (wr.drewN nq) osq := ⟨_, rfl⟩
          have hE : Ext wr wq := ⟨nq, osq, hwq⟩
          rw [← hwq]
          clear hwq
          have hbq := hb.trans (hE.below.mono (by omega : w.heap.size + 1 ≤ wr.heap.size))
          have hbwq : Below w.heap.size w wq := below_trans' hbw hE.below
          have hownq := hown.ext hE
          have hqs := hE.size
          obtain ⟨c0, c1⟩ := XC.out wq hbwq
          go_wp2_with (at_builtin; refine wpList_push elemId rfl _ _ rfl (w.heap.size + 1) _ zl rfl (hownq.alloc _) wq.heap.size 1 x rfl (cells_new _ _ _) (by simp at hlen; omega) (by simp; omega) ?_; intro v2 w2 hown2 hgrow2)
          go_roundw
          case rel => exact ⟨k + 1, by omega, by go_num, by rw [HI.out], by rw [HI.out]; exact hown2, Owns.push (hownq.alloc _) (hbq.alloc (by omega) _) hgrow2 (by simp; omega)⟩
          case measure => simp [intOf]; omega
    · have hk' : L.take k = L := List.take_of_length_le (by omega)
      rw [hk'] at hown hlen
      rw [hk']
      obtain ⟨f0, f1⟩ := tcells wr hb
      clear hk' tcells hbx
      have HZ : addG lessId L t = (if (insG lessId t L false).2 then (insG lessId t L false).1 else (insG lessId t L false).1 ++ [t]) := rfl
      generalize (insG lessId t L false) = z at *
      obtain ⟨zl, zd⟩ := z
      simp only at hown hlen HZ
      have HBW := hid hbw
      have hbx' : Below w.heap.size w (w.alloc (.cells #[.int .i64 t.r, .int .i64 t.n] 28)) := ((Ext.refl w).alloc _).below
      clear hbw
      cases zd with
      | true =>
        have HY := hid HZ
        clear HZ
        go_wp2
        go_ret
        exact ⟨_, rfl, by rw [HY.out]; exact hown.mono (by omega), HBW.out⟩
      | false =>
        have HY := hid HZ
        clear HZ
        go_wp2_with (at_builtin; refine wpList_push elemId rfl _ _ rfl (w.heap.size + 1) _ zl rfl (hown.alloc _) wr.heap.size 1 t rfl (cells_new _ _ _) (by simp at hlen; omega) (by simp; omega) ?_; intro v2 w2 hown2 hgrow2)
        go_ret
        exact ⟨_, rfl, by rw [HY.out]; exact hown2.mono (by omega), hbx'.trans ((Owns.push (hown.alloc _) (hb.alloc (by omega) _) hgrow2 (by simp; omega)).mono (by omega))⟩

/-- The set of ids: the text's own loop. -/
def setStep (out : List Id) (x : Id) : List Id := if x ∈ out then out else addG lessId out x
def setR (l : List Id) : List Id := l.foldl setStep []
theorem setStep_len (out : List Id) (x : Id) : (setStep out x).length ≤ out.length + 1 := by
  unfold setStep
  split
  · omega
  · rw [addG_len]
    omega
theorem setR_len (l : List Id) : ∀ out, (l.foldl setStep out).length ≤ out.length + l.length := by
  induction l with
  | nil => intro out; simp
  | cons x r ih =>
    intro out
    rw [List.foldl_cons]
    have := ih (setStep out x)
    have := setStep_len out x
    simp only [List.length_cons]
    omega
theorem setR_snoc (l : List Id) (k : Nat) (hk : k < l.length) : setR (l.take (k + 1)) = setStep (setR (l.take k)) l[k] := by
  unfold setR
  rw [List.take_succ_eq_append_getElem hk, List.foldl_append]
  rfl

set_option maxRecDepth 100000 in
set_option maxHeartbeats 800000 in
theorem RefSetI_any (w : World) (a : Option Addr) (g off cap : Nat) (l : List Id) (h : RdS encId 2 w a g off l) (hl : l.length ≤ 50000) :
    Calls Try.prog 34 #[.slice a l.length cap] w fun e w' => ∃ v, e = .returned v ∧ Owns w.heap.size 28 encId 2 w' v (setR l) ∧ Below w.heap.size w w' := by
  go_enter Try.func34, Try.ntmps34
  go_wp2
  go_loopw [3, 4] (fun s3 s4 wr => ∃ k : Nat, k ≤ l.length ∧ s4 = .int .i64 k ∧ Owns w.heap.size 28 encId 2 wr s3 (setR (l.take k)) ∧ Below w.heap.size w wr) (fun _ s4 _ => l.length - (intOf s4).toNat)
  case atStart => exact ⟨0, Nat.zero_le _, rfl, Owns.nil _ _ _ _ _, Below.refl _ _⟩
  case round =>
    obtain ⟨k, hk, rfl, hown, hb⟩ := hrel
    by_cases hlt : k < l.length
    · have hx := h.index (P := Try.prog) Try.underlying40 sizeId hlt cap
      have h1 := h.below hb
      have c0 := RdI0 h1 hlt
      have c1 := RdI1 h1 hlt
      have hcells : ∀ W, Ext wr W → W.cell? ⟨g, off + k * 2, none⟩ = some (.int .i64 l[k].r) ∧ W.cell? ⟨g, off + k * 2 + 1, none⟩ = some (.int .i64 l[k].n) := fun W hW => ⟨RdI0 (h1.below hW.below) hlt, RdI1 (h1.below hW.below) hlt⟩
      have hsnoc := setR_snoc l k hlt
      have hlen := setR_len (l.take k) []
      have hlt2 : (l.take k).length ≤ k := List.length_take_le _ _
      simp only [List.length_nil, Nat.zero_add] at hlen
      generalize l[k] = x at *
      change (setR (l.take k)).length ≤ _ at hlen
      generalize setR (l.take k) = out at *
      obtain ⟨aO, gO, oO, cO, hvO, hcO, hrO, hnO⟩ := Owns.rd encId_len hown
      subst hvO
      have HH := hid (fun W (hW : RdS encId 2 W aO gO oO out) => RefHas_any W aO gO oO cO out x hW (by omega))
      have HC := hid hcells
      have HB := hid hb
      clear hcells h1 hb
      by_cases hm : x ∈ out
      · have HS := hid (show setR (l.take (k + 1)) = out by rw [hsnoc]; unfold setStep; rw [if_pos hm])
        have hd := show decide (x ∈ out) = true by simpa using hm
        rw [hd] at HH
        clear hsnoc hm hd
        go_wp2_with fail
        refine (HH.out _ hrO).mono ?_
        rintro e w1 ⟨rfl, hE⟩
        go_wp2
        go_roundw
        case rel => exact ⟨k + 1, by omega, by go_num, by rw [HS.out]; exact hown.ext hE, below_trans' HB.out hE.below⟩
        case measure => simp [intOf]; omega
      · have HS := hid (show setR (l.take (k + 1)) = addG lessId out x by rw [hsnoc]; unfold setStep; rw [if_neg hm])
        have hd := show decide (x ∈ out) = false by simpa using hm
        rw [hd] at HH
        clear hsnoc hm hd
        go_wp2_with fail
        refine (HH.out _ hrO).mono ?_
        rintro e w1 ⟨rfl, hE⟩
        obtain ⟨d0, d1⟩ := HC.out w1 hE
        have hrO1 := hrO.below hE.below
        go_wp2_with fail
        refine (RefAdd_any _ aO gO oO cO out x hrO1 (by omega)).mono ?_
        rintro e w2 ⟨v, rfl, hown2, hb2⟩
        have hbf := below_trans' (below_trans' HB.out hE.below) hb2
        have hs : w.heap.size ≤ w1.heap.size := Nat.le_trans HB.out.size hE.size
        have HBF := hid hbf
        clear hb2 hbf
        go_wp2
        go_roundw
        case rel => exact ⟨k + 1, by omega, by go_num, by rw [HS.out]; exact hown2.mono hs, HBF.out⟩
        case measure => simp [intOf]; omega
    · have hk' : l.take k = l := List.take_of_length_le (by omega)
      rw [hk'] at hown
      have HB := hid hb
      clear hk' h hb
      go_wp2
      go_ret
      exact ⟨_, rfl, hown, HB.out⟩
end Go.Proofs.Ytlepfohhfngndaa
