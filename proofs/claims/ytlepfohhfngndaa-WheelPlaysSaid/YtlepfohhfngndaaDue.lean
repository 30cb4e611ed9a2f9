/- The wheel's Due: the closure that compares; the two loops about the sort. -/
import Derived.Test.YtlepfohhfngndaaRef16
import Derived.Test.YtlepfohhfngndaaWheelA
import Derived.Test.YtlepfohhfngndaaSort
import Derived.Test.YtlepfohhfngndaaLaidP
namespace Go.Proofs.Ytlepfohhfngndaa
open Go Go.RowKit Go.MapKept Go.ChangeMaps Go.Maps

/-- When an id is due. -/
def atOf (l : List (Id × Int)) (i : Id) : Int := (aget l i).getD 0
/-- What the closure says of two ids. -/
def dueCmp (l : List (Id × Int)) (x y : Id) : Int := if cmpI (atOf l x) (atOf l y) ≠ 0 then cmpI (atOf l x) (atOf l y) else if lessId x y then -1 else 1

/-- The wheel's map, in every world of the class. -/
theorem gmap {ek : Id → Value} {ev : Int → Value} {w : World} {m : Nat} {l : List (Id × Int)} (h : MapIs ek ev w m l) (n : Nat) (os : Array Obj) : MapIs ek ev (Sort.grow (w.drewN n) os) m l := h.same ((Ext.of_grow w n os).block m h.lt)

set_option maxRecDepth 100000 in
set_option maxHeartbeats 800000 in
theorem DueCmp_any (w : World) (B b m : Nat) (l : List (Id × Int)) (x y : Id) (hB : w.cell? ⟨B, 0, none⟩ = some (.pointer (some ⟨b, 0, none⟩))) (h : Wheel w b m l) :
    Calls Try.prog 39 #[.agg #[.int .i64 x.r, .int .i64 x.n], .agg #[.int .i64 y.r, .int .i64 y.n], .pointer (some ⟨B, 0, none⟩)] w fun e w' => e = .returned (.int .i64 (dueCmp l x y)) ∧ Ext w w' := by
  have hBlt := World.block_lt_of_cell? w ⟨B, 0, none⟩ hB
  have hb := h.lt
  have hc : w.cell? ⟨b, 0, none⟩ = some (.map (some m)) := by simp [World.cell?, h.cell]
  have e1 : ∀ i, ((aget l i).map vInt).getD (.int .i64 0) = .int .i64 (atOf l i) := fun i => by unfold atOf; cases aget l i <;> rfl
  obtain ⟨w0, hw0⟩ : ∃ w0, w0 = (w.alloc (.cells #[.int .i64 x.r, .int .i64 x.n] 28)).alloc (.cells #[.int .i64 y.r, .int .i64 y.n] 28) := ⟨_, rfl⟩
  have hE0 : Ext w w0 := by rw [hw0]; exact ((Ext.refl w).alloc _).alloc _
  have hm0 : MapIs vId vInt w0 m l := h.map.same (hE0.block m h.map.lt)
  have c0 : w0.cell? ⟨B, 0, none⟩ = some (.pointer (some ⟨b, 0, none⟩)) := (hE0.below.cell (p := ⟨B, 0, none⟩) hBlt).trans hB
  have c1 : w0.cell? ⟨b, 0, none⟩ = some (.map (some m)) := (hE0.below.cell (p := ⟨b, 0, none⟩) hb).trans hc
  have d0 : w0.cell? ⟨w.heap.size, 0, none⟩ = some (.int .i64 x.r) := by rw [hw0]; simp
  have d1 : w0.cell? ⟨w.heap.size, 1, none⟩ = some (.int .i64 x.n) := by rw [hw0]; simp
  have d2 : w0.cell? ⟨w.heap.size + 1, 0, none⟩ = some (.int .i64 y.r) := by rw [hw0]; simp
  have d3 : w0.cell? ⟨w.heap.size + 1, 1, none⟩ = some (.int .i64 y.n) := by rw [hw0]; simp
  have hz0 : w.heap.size + 1 < w0.heap.size := by rw [hw0]; simp
  have hlx := fun n => MapIs.lookup (P := Try.prog) keyId (show MapIs vId vInt (w0.drewN n) m l from hm0) Try.underlying74 (zeroInt _) x false
  have hly := fun n => MapIs.lookup (P := Try.prog) keyId (show MapIs vId vInt (w0.drewN n) m l from hm0) Try.underlying74 (zeroInt _) y false
  simp only [Bool.false_eq_true, if_false, e1, vId] at hlx hly
  have HD : dueCmp l x y = if cmpI (atOf l x) (atOf l y) ≠ 0 then cmpI (atOf l x) (atOf l y) else if lessId x y then -1 else 1 := rfl
  generalize dueCmp l x y = D at *
  generalize atOf l x = ax at *
  generalize atOf l y = ay at *
  clear e1 hc hB h hm0
  have HC := hid (fun W => Compare_any ax ay W)
  have H0 := hid hw0
  go_enter Try.func39, Try.ntmps39
  clear hw0
  go_wp2_with fail
  rw [← H0.out]
  clear H0
  go_quiet ((go_at_call 40; exact Calls.quiet_of_same (HC.out _)))
  by_cases hz : cmpI ax ay = 0
  · have hz' : (cmpI ax ay == 0) = true := by simpa using hz
    rw [if_neg (by simpa using hz)] at HD
    generalize cmpI ax ay = z at *
    have HL := hid (fun W => Less_any x y W)
    clear hz
    cases hl : lessId x y with
    | true =>
      rw [hl] at HL HD
      rw [if_pos rfl] at HD
      have HE := hid HD
      clear HD hl
      go_wp2_with (go_at_call 41; refine (HL.out _).mono ?_; rintro e w' ⟨rfl, he⟩)
      go_ret
      exact ⟨by rw [HE.out]; rfl, (hE0.drewN _).trans he⟩
    | false =>
      rw [hl] at HL HD
      rw [if_neg (by simp)] at HD
      have HE := hid HD
      clear HD hl
      go_wp2_with (go_at_call 41; refine (HL.out _).mono ?_; rintro e w' ⟨rfl, he⟩)
      go_ret
      exact ⟨by rw [HE.out]; rfl, (hE0.drewN _).trans he⟩
  · have hz' : (cmpI ax ay == 0) = false := by simpa using hz
    rw [if_pos hz] at HD
    generalize cmpI ax ay = z at *
    have HE := hid HD
    clear HD hz
    go_wp2
    go_ret
    exact ⟨by rw [HE.out]; rfl, hE0.drewN _⟩

theorem encId_len (i : Id) : (encId i).length = 2 := rfl
theorem sizeId : ∀ W, (sizeOf 28).run Try.prog W = .ok 2 W := fun W => by kernel_rfl
theorem aggId : ∀ W, (isAgg 28).run Try.prog W = .ok true W := fun W => by kernel_rfl
theorem infoId : (Try.prog.info? 28).map (fun i => (i.zero, i.size, i.bytes)) = some (some (.agg #[.int .i64 0, .int .i64 0]), 2, 16) := by kernel_rfl
theorem oneId : ∀ x : Id, ∀ u ∈ encId x, u.oneCell' = true := fun x u hu => by simp [encId] at hu; rcases hu with rfl | rfl <;> rfl
theorem elemId : ElemT Try.prog 40 28 encId 2 16 := by
  obtain ⟨i, hi, hz0, hz1, hz2⟩ := info_parts infoId
  exact ⟨Try.underlying40, ⟨i, _, hi, hz0, hz1, hz2, rfl⟩, encId_len, by omega, oneId, by omega⟩

/-- What the first loop has collected. -/
def Collected (l left : List (Id × Int)) (now : Int) (out : List Id) : Prop :=
  ∃ done : List (Id × Int), (done ++ left).Perm l ∧ out = (done.filter (fun p => decide (p.2 ≤ now))).map (·.1)
theorem Collected.len {l left : List (Id × Int)} {now : Int} {out : List Id} (h : Collected l left now out) : out.length ≤ l.length := by
  obtain ⟨done, hp, rfl⟩ := h
  have := hp.length_eq
  rw [List.length_append] at this
  rw [List.length_map]
  have := List.length_filter_le (fun p : Id × Int => decide (p.2 ≤ now)) done
  omega
theorem Collected.step {l a c : List (Id × Int)} {p : Id × Int} {now : Int} {out : List Id} (h : Collected l (a ++ p :: c) now out) : Collected l (a ++ c) now (if p.2 ≤ now then out ++ [p.1] else out) := by
  obtain ⟨done, hp, rfl⟩ := h
  refine ⟨done ++ [p], ?_, ?_⟩
  · refine List.Perm.trans ?_ hp
    rw [List.append_assoc]
    exact List.Perm.append_left _ (by simpa using List.perm_middle.symm)
  · rw [List.filter_append]
    by_cases h : p.2 ≤ now
    · rw [if_pos h]; simp [h]
    · rw [if_neg h]; simp [h]

open Go.Sort in
theorem ltOf_due (l : List (Id × Int)) (x y : Id) : ltOf (dueCmp l) x y = decide (atOf l x < atOf l y ∨ atOf l x = atOf l y ∧ lessId x y = true) := by
  unfold ltOf dueCmp
  rw [Bool.eq_iff_iff]
  simp only [decide_eq_true_eq]
  by_cases h : cmpI (atOf l x) (atOf l y) = 0
  · rw [if_neg (by simpa using h)]
    have := cmpI_zero.1 h
    cases lessId x y <;> simp <;> omega
  · rw [if_pos h, cmpI_neg]
    have : atOf l x ≠ atOf l y := fun e => h (cmpI_zero.2 e)
    omega
theorem lessId_iff (x y : Id) : lessId x y = true ↔ (x.n < y.n ∨ x.n = y.n ∧ x.r < y.r) := by unfold lessId; simp
theorem lessId_not (x y : Id) : lessId x y = false ↔ ¬ (x.n < y.n ∨ x.n = y.n ∧ x.r < y.r) := by unfold lessId; simp
open Go.Sort in
theorem swoDue (l : List (Id × Int)) : SWO (ltOf (dueCmp l)) where
  irrefl x := by rw [ltOf_due, decide_eq_false_iff_not, lessId_iff]; omega
  trans x y z h1 h2 := by
    rw [ltOf_due, decide_eq_true_eq, lessId_iff] at *
    omega
  ntrans x y z h1 h2 := by
    rw [ltOf_due, decide_eq_false_iff_not, lessId_iff] at *
    omega
open Go.Sort in
theorem totDue (l : List (Id × Int)) (x y : Id) (h1 : ltOf (dueCmp l) x y = false) (h2 : ltOf (dueCmp l) y x = false) : x = y := by
  rw [ltOf_due, decide_eq_false_iff_not, lessId_iff] at *
  exact Id.ext' (by omega) (by omega)
/-- The ids that are due, in their order. -/
def dueIds (l : List (Id × Int)) (out : List Id) : List Id := out.mergeSort fun x y => !(ltOf (dueCmp l)) y x
theorem sort_due (l : List (Id × Int)) (w : World) (base B b m : Nat) (v : Value) (out : List Id) (hown : Owns base 28 encId 2 w v out) (hl : out.length ≤ 1000000) (hB : w.cell? ⟨B, 0, none⟩ = some (.pointer (some ⟨b, 0, none⟩))) (hw : Wheel w b m l) (h1 : B < base) (h2 : b < base) (h3 : m < base) :
    Calls Try.prog 38 #[v, .func (.func 39) #[] #[.pointer (some ⟨B, 0, none⟩)]] w fun e' w' => e' = .returned (.tuple #[]) ∧ Owns base 28 encId 2 w' v (dueIds l out) ∧ Keeps (fun i => v.ownBlock = some i) w w' := by
  have eg : ∀ args w, (callFunc 39 args).run Try.prog w = .ok (.enter 39 args) w := enters_of Try.func39 (by kernel_rfl) rfl
  have hBl := World.block_lt_of_cell? w ⟨B, 0, none⟩ hB
  have hcon := sort_owns Try.sortId 2 Try.isAgg28 Try.sizeOf28 encId encId_len oneId (dueCmp l) (swoDue l) (totDue l) 39 #[.pointer (some ⟨B, 0, none⟩)] eg w base 28 v out hown hl
    (fun W hK x y => DueCmp_any W B b m l x y ((World.cell?_of_block (w := w) (a := ⟨B, 0, none⟩) (hK.block B hBl (fun e => by have := (hown.lt B e).1; omega))).trans hB) (hw.kept hK (fun e => by have := (hown.lt b e).1; omega) (fun e => by have := (hown.lt m e).1; omega)))
  exact hcon

set_option maxRecDepth 100000 in
set_option maxHeartbeats 1600000 in
theorem Due_any (w : World) (b m : Nat) (l : List (Id × Int)) (now : Int) (h : Wheel w b m l) (hl : l.length ≤ 1000) :
    Calls Try.prog 16 #[.pointer (some ⟨b, 0, none⟩), .int .i64 now] w fun e w' => ∃ v out, e = .returned v ∧ Collected l [] now out ∧ Owns w.heap.size 28 encId 2 w' v (dueIds l out) ∧ Wheel w' b m ((dueIds l out).foldl adel l) ∧ Keeps (· = m) w w' := by
  have hb := h.lt
  have hm := h.map.lt
  have hc : w.cell? ⟨b, 0, none⟩ = some (.map (some m)) := by simp [World.cell?, h.cell]
  have hE0 : Ext w (w.alloc (.cells #[.pointer (some ⟨b, 0, none⟩)] 24)) := (Ext.refl w).alloc _
  have hm0 : MapIs vId vInt (w.alloc (.cells #[.pointer (some ⟨b, 0, none⟩)] 24)) m l := h.map.same (hE0.block m hm)
  obtain ⟨o, hr, hR⟩ := hm0.range (P := Try.prog) Try.underlying74
  have hs0 : (w.alloc (.cells #[.pointer (some ⟨b, 0, none⟩)] 24)).heap.size = w.heap.size + 1 := by simp
  rw [hs0] at hr hR
  clear hs0 hm0
  go_enter Try.func16, Try.ntmps16
  go_wp2_with (fail)
  go_loopw [5] (fun s5 wr => ∃ left out, Rng vId vInt wr m (w.heap.size + 1) l left ∧ Owns (w.heap.size + 2) 28 encId 2 wr s5 out ∧ Collected l left now out ∧ Below (w.heap.size + 1) (w.alloc (.cells #[.pointer (some ⟨b, 0, none⟩)] 24)) wr) (fun _ wr => rngLeft wr m (w.heap.size + 1))
  case atStart => exact ⟨l, [], hR, Owns.nil _ _ _ _ _, ⟨[], List.Perm.refl _, rfl⟩, (Below.refl _ _).alloc (by simp) _⟩
  case round =>
    obtain ⟨left, out, hRl, hown, hcol, hbel⟩ := hrel
    have hleft := hRl.left_eq
    have HL := hid hleft
    have hlen := hcol.len
    have hrlt := hRl.lt
    clear hleft
    rcases hRl.next (P := Try.prog) with ⟨h0, hn⟩ | ⟨a, p, c, w', hl', hn, hR', ⟨w1, o1, hw1, hw'⟩, he⟩
    · subst h0
      have hW : Wheel wr b m l := ⟨(hbel.block b (by omega)).trans ((hE0.block b hb).trans h.cell), hRl.map⟩
      have hB : wr.cell? ⟨w.heap.size, 0, none⟩ = some (.pointer (some ⟨b, 0, none⟩)) := by rw [hbel.cell (p := ⟨w.heap.size, 0, none⟩) (by simp)]; simp
      have hS := hid (sort_due l wr (w.heap.size + 2) w.heap.size b m u5 out hown (by omega) hB hW (by omega) (by omega) (by omega))
      have hlenD : (dueIds l out).length = out.length := List.length_mergeSort _
      have HD := hid hlenD
      have HCol := hid hcol
      have HW := hid hW
      have HB := hid hB
      have hown1 := hown.lt
      have hsz := hbel.size
      simp at hsz
      clear hRl hcol hc h hR hr hE0 hlenD hW hB
      go_wp2_with (fail)
      refine hS.out.mono ?_
      rintro e w2 ⟨rfl, hown2, hk2⟩
      have hW2 := HW.out.kept hk2 (fun e => by have := (hown1 b e).1; omega) (fun e => by have := (hown1 m e).1; omega)
      have hB2 : w2.cell? ⟨w.heap.size, 0, none⟩ = some (.pointer (some ⟨b, 0, none⟩)) := hk2.cell (fun e => by have := (hown1 w.heap.size e).1; omega) HB.out
      have hbw : Below w.heap.size w wr := ((Ext.refl w).alloc (.cells #[.pointer (some ⟨b, 0, none⟩)] 24)).below.trans (hbel.mono (by omega))
      have hKw : Keeps (· = m) w w2 := (below_keeps hbw).trans hk2 (fun i hi e => by have := (hown1 i e).1; omega)
      obtain ⟨D, hD⟩ : ∃ D, D = dueIds l out := ⟨_, rfl⟩
      have HDD := hid hD
      rw [← hD] at hown2
      have hD1000 : D.length ≤ 1000 := by rw [hD, HD.out]; omega
      clear hD HD hk2 hS HW HB hbel hbw hown1 hlen hown
      have hrd := Owns.rd encId_len hown2
      obtain ⟨aD, gD, oD, cD, hvD, hcD, hrD, hnD⟩ := hrd
      subst hvD
      have hgD : D ≠ [] → gD ≠ m := fun h0 e => by
        have h1 := hrD.some h0
        have := (hown2.lt gD (by rw [h1]; rfl)).1
        omega
      have hs2 := hKw.size
      go_wp2_with (fail)
      go_loopw [32] (fun s32 wq => ∃ k : Nat, k ≤ D.length ∧ s32 = .int .i64 k ∧ MapIs vId vInt wq m ((D.take k).foldl adel l) ∧ Keeps (· = m) w2 wq) (fun s32 _ => D.length - (intOf s32).toNat)
      case atStart => exact ⟨0, Nat.zero_le _, rfl, hW2.map, Keeps.refl _ _⟩
      case round =>
        obtain ⟨k, hk, rfl, hmap, hkq⟩ := hrel
        have hsq := hkq.size
        by_cases hlt : k < D.length
        · have hx := hrD.index (P := Try.prog) Try.underlying40 sizeId hlt cD
          have hq := hrD.keeps hkq hgD
          have hget : D[k]? = some D[k] := by simp [hlt]
          have x0 : wr.cell? ⟨gD, oD + k * 2, none⟩ = some (.int .i64 D[k].r) := hq.cells k D[k] hget 0 _ rfl
          have x1 : wr.cell? ⟨gD, oD + k * 2 + 1, none⟩ = some (.int .i64 D[k].n) := hq.cells k D[k] hget 1 _ rfl
          have b0 : wr.cell? ⟨w.heap.size, 0, none⟩ = some (.pointer (some ⟨b, 0, none⟩)) := hkq.cell (by omega) hB2
          have hbq : wr.heap[b]? = some (.cells #[.map (some m)] 76 (0, 0)) := (hkq.block b hW2.lt (fun e => hW2.ne e.symm)).trans hW2.cell
          have b1 : wr.cell? ⟨b, 0, none⟩ = some (.map (some m)) := by simp [World.cell?, hbq]
          have hfold : (D.take (k + 1)).foldl adel l = adel ((D.take k).foldl adel l) D[k] := by
            rw [List.take_succ_eq_append_getElem hlt, List.foldl_append]; rfl
          have z0 : w.heap.size < wr.heap.size := World.block_lt_of_cell? wr ⟨w.heap.size, 0, none⟩ b0
          have z1 : gD < wr.heap.size := World.block_lt_of_cell? wr ⟨gD, oD + k * 2, none⟩ x0
          have z2 : b < wr.heap.size := World.block_lt_of_cell? wr ⟨b, 0, none⟩ b1
          generalize D[k] = x at *
          obtain ⟨es, c, hd1, hd2⟩ := MapIs.drop (P := Try.prog) keyId (show MapIs vId vInt (wr.alloc (.cells #[.int .i64 x.r, .int .i64 x.n] 28)).drew m _ from hmap.same (Below.heap_alloc _ _ _ hmap.lt)) Try.underlying74 (ty := 0) x
          have hkq' := ((hkq.alloc (.cells #[.int .i64 x.r, .int .i64 x.n] 28)).drew).setBlock (b := m) (fun _ => rfl) (.map es c)
          simp only [vId] at hd1
          have HF := hid hfold
          have HQ := hid hkq'
          clear hfold hkq' hq hget hmap hbq hW2 hkq hKw hB2
          go_wp2_with (fail)
          go_region
          go_wp2
          go_roundw
          case rel => exact ⟨k + 1, by omega, by go_num, by rw [HF.out]; exact hd2, HQ.out⟩
          case measure => simp [intOf]; omega
        · have hk' : D.take k = D := List.take_of_length_le (by omega)
          rw [hk'] at hmap
          have hO : Owns (w.heap.size + 2) 28 encId 2 wr (.slice aD D.length cD) D := hown2.same fun g hg => hkq.block g (hown2.lt g hg).2 (fun e => by have := (hown2.lt g hg).1; omega)
          have hWq : Wheel wr b m (D.foldl adel l) := ⟨(hkq.block b hW2.lt (fun e => hW2.ne e.symm)).trans hW2.cell, hmap⟩
          have hfin : Keeps (· = m) w wr := hKw.trans hkq (fun _ _ e => e)
          have HH := hid hfin
          clear hk' hmap hkq hKw hfin
          go_wp2
          go_ret
          refine ⟨_, out, rfl, HCol.out, ?_, ?_, HH.out⟩
          · rw [← HDD.out]; exact hO.mono (by omega)
          · rw [← HDD.out]; exact hWq
    · have hb' : Below (w.heap.size + 1) (w.alloc (.cells #[.pointer (some ⟨b, 0, none⟩)] 24)) w' := by
        rw [hw']
        refine hbel.trans ⟨?_, ?_, ?_, ?_, fun j hj => ?_⟩
        · rcases hw1 with rfl | rfl <;> rfl
        · rcases hw1 with rfl | rfl <;> rfl
        · rcases hw1 with rfl | rfl <;> rfl
        · rcases hw1 with rfl | rfl <;> simp [setBlock]
        · rw [setBlock_other _ _ _ (by omega)]
          rcases hw1 with rfl | rfl <;> rfl
      have hown' : Owns (w.heap.size + 2) 28 encId 2 w' u5 out := by
        have hs1 : ∀ g, u5.ownBlock = some g → w'.heap[g]? = wr.heap[g]? := fun g hg => by
          have := (hown.lt g hg).1
          rw [hw', setBlock_other _ _ _ (by omega)]
          rcases hw1 with rfl | rfl <;> rfl
        exact hown.same hs1
      have hm' : rngLeft w' m (w.heap.size + 1) < rngLeft wr m (w.heap.size + 1) := by
        rw [hR'.left_eq, HL.out, hl']
        simp
      have hcol' := (hl' ▸ hcol).step
      have H1 := hid hl'
      have H2 := hid hw'
      have HM := hid hm'
      simp only [vId, vInt] at hn he
      clear hl' hw' hw1 hcol hRl hm'
      by_cases hp : p.2 ≤ now
      · rw [if_pos hp] at hcol'
        have HC := hid hcol'
        clear hcol'
        have hsz := hb'.size
        simp at hsz
        go_wp2_with (at_builtin; refine wpList_push elemId rfl _ _ rfl (w.heap.size + 2) _ out rfl ((hown'.alloc _).alloc _) (w'.heap.size + 1) 1 p.1 rfl (cells_newN (by simp) _ _) (by omega) (by simp; omega) ?_; intro v' w2 hown2 hgrow)
        have hg2 : ∀ i, i < w'.heap.size → i < w.heap.size + 2 → w2.heap[i]? = w'.heap[i]? := fun i hi1 hi2 => by
          rw [hgrow.block i (by simp; omega) (fun e0 => by have := (hown'.lt i e0.symm).1; omega), Below.heap_alloc _ _ _ (by simp; omega), Below.heap_alloc _ _ _ hi1]
        have hR2 := hR'.same (hg2 m hR'.map.lt (by omega)) (hg2 _ hR'.lt (by omega))
        go_roundw
        case rel => exact ⟨_, _, hR2, hown2, HC.out, Owns.pushB ((hown'.alloc _).alloc _) ((hb'.alloc (by omega) _).alloc (by simp; omega) _) hgrow (by simp; omega) (by omega)⟩
        case measure => rw [hR2.left_eq, ← hR'.left_eq]; exact HM.out
      · rw [if_neg hp] at hcol'
        have HC := hid hcol'
        clear hcol'
        have hsz := hb'.size
        simp at hsz
        go_wp2
        have hR2 := hR'.same (w' := w'.alloc (.cells #[.int .i64 p.1.r, .int .i64 p.1.n] 28)) (Below.heap_alloc _ _ _ hR'.map.lt) (Below.heap_alloc _ _ _ hR'.lt)
        go_roundw
        case rel => exact ⟨_, _, hR2, hown'.alloc _, HC.out, hb'.alloc (by omega) _⟩
        case measure => rw [hR2.left_eq, ← hR'.left_eq]; exact HM.out
end Go.Proofs.Ytlepfohhfngndaa
