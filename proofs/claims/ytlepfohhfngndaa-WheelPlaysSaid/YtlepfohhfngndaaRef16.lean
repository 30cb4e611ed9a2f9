/- The document's wheel: Find, Out, Set, Due over lists of timers. -/
import Derived.Test.YtlepfohhfngndaaSlice
import Derived.Test.YtlepfohhfngndaaCmp
namespace Go.Proofs.Ytlepfohhfngndaa
open Go Go.RowKit Go.MapKept Go.ChangeMaps Go.Maps

/-- A timer's cells. -/
def encT (t : Id × Int) : List Value := [.int .i64 t.1.r, .int .i64 t.1.n, .int .i64 t.2]
theorem encT_len (t : Id × Int) : (encT t).length = 3 := rfl
theorem sizeT : ∀ W, (sizeOf 35).run Try.prog W = .ok 3 W := fun W => by kernel_rfl
theorem infoT : (Try.prog.info? 35).map (fun i => (i.zero, i.size, i.bytes)) = some (some (.agg #[.int .i64 0, .int .i64 0, .int .i64 0]), 3, 24) := by kernel_rfl
theorem elemT : ElemT Try.prog 26 35 encT 3 24 := by
  obtain ⟨i, hi, hz0, hz1, hz2⟩ := info_parts infoT
  exact ⟨Try.underlying26, ⟨i, _, hi, hz0, hz1, hz2, rfl⟩, encT_len, by omega, fun x u hu => by simp [encT] at hu; rcases hu with rfl | rfl | rfl <;> rfl, by omega⟩
theorem RdT0 {w : World} {a : Option Addr} {g off : Nat} {l : List (Id × Int)} (h : RdS encT 3 w a g off l) {k : Nat} (hk : k < l.length) : w.cell? ⟨g, off + k * 3, none⟩ = some (.int .i64 l[k].1.r) := h.cells k l[k] (by simp [hk]) 0 _ rfl
theorem RdT1 {w : World} {a : Option Addr} {g off : Nat} {l : List (Id × Int)} (h : RdS encT 3 w a g off l) {k : Nat} (hk : k < l.length) : w.cell? ⟨g, off + k * 3 + 1, none⟩ = some (.int .i64 l[k].1.n) := h.cells k l[k] (by simp [hk]) 1 _ rfl
theorem RdT2 {w : World} {a : Option Addr} {g off : Nat} {l : List (Id × Int)} (h : RdS encT 3 w a g off l) {k : Nat} (hk : k < l.length) : w.cell? ⟨g, off + k * 3 + 2, none⟩ = some (.int .i64 l[k].2) := h.cells k l[k] (by simp [hk]) 2 _ rfl

theorem adel_snoc (l : List (Id × Int)) (i : Id) (k : Nat) (hk : k < l.length) : adel (l.take (k + 1)) i = if l[k].1 = i then adel (l.take k) i else adel (l.take k) i ++ [l[k]] := by
  unfold adel
  rw [List.take_succ_eq_append_getElem hk, List.filter_append]
  by_cases h : l[k].1 = i
  · rw [if_pos h]; simp [h]
  · rw [if_neg h]; simp [h]

set_option maxRecDepth 100000 in
set_option maxHeartbeats 400000 in
theorem RefOut_any (w : World) (a : Option Addr) (g off cap : Nat) (l : List (Id × Int)) (i : Id) (h : RdS encT 3 w a g off l) (hl : l.length ≤ 1000) :
    Calls Try.prog 15 #[.slice a l.length cap, .agg #[.int .i64 i.r, .int .i64 i.n]] w fun e w' => ∃ v, e = .returned v ∧ Owns w.heap.size 35 encT 3 w' v (adel l i) ∧ Below w.heap.size w w' := by
  go_enter Try.func15, Try.ntmps15
  go_wp2
  go_loopw [5, 6] (fun s5 s6 wr => ∃ k : Nat, k ≤ l.length ∧ s6 = .int .i64 k ∧ Owns (w.heap.size + 1) 35 encT 3 wr s5 (adel (l.take k) i) ∧ Below (w.heap.size + 1) (w.alloc (.cells #[.int .i64 i.r, .int .i64 i.n] 28)) wr) (fun _ s6 _ => l.length - (intOf s6).toNat)
  case atStart => exact ⟨0, Nat.zero_le _, rfl, Owns.nil _ _ _ _ _, Below.refl _ _⟩
  case round =>
    obtain ⟨k, hk, rfl, hown, hb⟩ := hrel
    have hbw : Below w.heap.size w wr := ((Ext.refl w).alloc _).below.trans (hb.mono (by omega))
    by_cases hlt : k < l.length
    · have hx := h.index (P := Try.prog) Try.underlying26 sizeT hlt cap
      have h1 := h.below hbw
      have c0 := RdT0 h1 hlt
      have c1 := RdT1 h1 hlt
      have c2 := RdT2 h1 hlt
      have d0 : wr.cell? ⟨w.heap.size, 0, none⟩ = some (.int .i64 i.r) := by rw [hb.cell (p := ⟨w.heap.size, 0, none⟩) (by simp)]; simp
      have d1 : wr.cell? ⟨w.heap.size, 1, none⟩ = some (.int .i64 i.n) := by rw [hb.cell (p := ⟨w.heap.size, 1, none⟩) (by simp)]; simp
      have hsnoc := adel_snoc l i k hlt
      have hne := run_neq_id l[k].1 i
      have hlen : (adel (l.take k) i).length ≤ k := Nat.le_trans (List.length_filter_le _ _) (List.length_take_le _ _)
      generalize l[k] = x at *
      by_cases hxi : x.1 = i
      · rw [if_pos hxi] at hsnoc
        have hd : decide (x.1 = i) = true := by simpa using hxi
        rw [hd] at hne
        have HS := hid hsnoc
        clear hsnoc hxi hd h h1
        go_wp2
        go_quiet (fail)
        go_wp2
        go_roundw
        case rel => exact ⟨k + 1, by omega, by go_num, by rw [HS.out]; exact hown, bdrewN hb _⟩
        case measure => simp [intOf]; omega
      · rw [if_neg hxi] at hsnoc
        have hd : decide (x.1 = i) = false := by simpa using hxi
        rw [hd] at hne
        have HS := hid hsnoc
        clear hsnoc hxi hd h h1
        go_wp2
        go_quiet (fail)
        go_wp2_with (at_builtin; refine wpList_push elemT rfl _ _ rfl (w.heap.size + 1) _ (adel (l.take k) i) rfl ((hown.alloc _).drewN nq) wr.heap.size 1 x rfl (cells_new _ _ _) (by omega) (by have := hb.size; simp at this ⊢; omega) ?_; intro v' w1 hown' hgrow)
        go_roundw
        case rel => exact ⟨k + 1, by omega, by go_num, by rw [HS.out]; exact hown', Owns.push ((hown.alloc _).drewN nq) (bdrewN (hb.alloc (by have := hb.size; simp at this ⊢; omega) _) nq) hgrow (by have := hb.size; simp at this ⊢; omega)⟩
        case measure => simp [intOf]; omega
    · have hk' : l.take k = l := List.take_of_length_le (by omega)
      rw [hk'] at hown
      clear hk' h
      go_wp2
      go_ret
      exact ⟨_, rfl, hown.mono (by omega), hbw⟩

theorem take_snoc' {l : List (Id × Int)} {k : Nat} (h : k < l.length) : l.take (k + 1) = l.take k ++ [l[k]] := List.take_succ_eq_append_getElem h

/-- An id's place. -/
def findT (l : List (Id × Int)) (i : Id) : Int := match l.findIdx? (fun p => decide (p.1 = i)) with | some k => k | none => -1

set_option maxRecDepth 100000 in
set_option maxHeartbeats 400000 in
theorem RefFind_any (w : World) (a : Option Addr) (g off cap : Nat) (l : List (Id × Int)) (i : Id) (h : RdS encT 3 w a g off l) (hl : l.length ≤ 1000) :
    Calls Try.prog 10 #[.slice a l.length cap, .agg #[.int .i64 i.r, .int .i64 i.n]] w fun e w' => e = .returned (.int .i64 (findT l i)) ∧ Ext w w' := by
  go_enter Try.func10, Try.ntmps10
  go_wp2
  go_loopw [5] (fun s5 wr => ∃ k : Nat, k ≤ l.length ∧ s5 = .int .i64 k ∧ (∀ p ∈ l.take k, p.1 ≠ i) ∧ Ext (w.alloc (.cells #[.int .i64 i.r, .int .i64 i.n] 28)) wr) (fun s5 _ => l.length - (intOf s5).toNat)
  case atStart => exact ⟨0, Nat.zero_le _, rfl, fun p hp => by simp at hp, Ext.refl _⟩
  case round =>
    obtain ⟨k, hk, rfl, hno, hb⟩ := hrel
    have hbw : Ext w wr := ((Ext.refl w).alloc _).trans hb
    by_cases hlt : k < l.length
    · have hx := h.index (P := Try.prog) Try.underlying26 sizeT hlt cap
      have h1 := h.below hbw.below
      have c0 := RdT0 h1 hlt
      have c1 := RdT1 h1 hlt
      have d0 : wr.cell? ⟨w.heap.size, 0, none⟩ = some (.int .i64 i.r) := by rw [hb.below.cell (p := ⟨w.heap.size, 0, none⟩) (by simp)]; simp
      have d1 : wr.cell? ⟨w.heap.size, 1, none⟩ = some (.int .i64 i.n) := by rw [hb.below.cell (p := ⟨w.heap.size, 1, none⟩) (by simp)]; simp
      have hsnoc := take_snoc' hlt
      have hne := run_eql_id l[k].1 i
      have hget : l[k]? = some l[k] := by simp [hlt]
      generalize l[k] = x at *
      by_cases hxi : x.1 = i
      · have hf : findT l i = k := by
          unfold findT
          have : l.findIdx? (fun p => decide (p.1 = i)) = some k := by
            rw [List.findIdx?_eq_some_iff_getElem]
            have hxk : l[k] = x := by simpa [hlt] using hget
            refine ⟨hlt, by rw [hxk]; simpa using hxi, fun j hj => ?_⟩
            have hjl : j < l.length := by omega
            have := hno l[j] (List.mem_take_iff_getElem.2 ⟨j, by omega, rfl⟩)
            simpa using this
          rw [this]
        have hd : decide (x.1 = i) = true := by simpa using hxi
        rw [hd] at hne
        have HF := hid hf
        clear hsnoc hf hxi hd h h1 hno hget
        go_wp2
        go_quiet (fail)
        go_wp2
        go_ret
        exact ⟨by rw [HF.out]; rfl, hbw.drewN _⟩
      · have hd : decide (x.1 = i) = false := by simpa using hxi
        rw [hd] at hne
        have hno' : ∀ p ∈ l.take (k + 1), p.1 ≠ i := by
          intro p hp
          rw [hsnoc] at hp
          rcases List.mem_append.1 hp with hp | hp
          · exact hno p hp
          · simp at hp; subst hp; exact hxi
        clear hsnoc hxi hd h h1 hno hget
        go_wp2
        go_quiet (fail)
        go_wp2
        go_roundw
        case rel => exact ⟨k + 1, by omega, by go_num, hno', hb.drewN _⟩
        case measure => simp [intOf]; omega
    · have hf : findT l i = -1 := by
        have hk' : l.take k = l := List.take_of_length_le (by omega)
        rw [hk'] at hno
        unfold findT
        rw [List.findIdx?_eq_none_iff.2 (fun p hp => by simpa using hno p hp)]
      have HF := hid hf
      clear hf hno h
      go_wp2
      go_ret
      exact ⟨by rw [HF.out]; rfl, hbw⟩

/-- How many are due. -/
def dueT (l : List (Id × Int)) (now : Int) : Nat := (l.takeWhile (fun p => decide (p.2 ≤ now))).length
theorem dueT_at {l : List (Id × Int)} {now : Int} {k : Nat} (h1 : ∀ p ∈ l.take k, p.2 ≤ now) (hk : k ≤ l.length) (h2 : ∀ p, l[k]? = some p → ¬ p.2 ≤ now) : dueT l now = k := by
  unfold dueT
  have e : l = l.take k ++ l.drop k := (List.take_append_drop k l).symm
  rw [e, List.takeWhile_append_of_pos (fun p hp => by simpa using h1 p hp)]
  have : (l.drop k).takeWhile (fun p => decide (p.2 ≤ now)) = [] := by
    cases hd : l.drop k with
    | nil => rfl
    | cons p r =>
      have : l[k]? = some p := by
        have := congrArg (·[0]?) hd
        simpa using this
      rw [List.takeWhile_cons_of_neg (by simpa using h2 p this)]
  rw [this]
  simp
  omega

set_option maxRecDepth 100000 in
set_option maxHeartbeats 400000 in
theorem RefDue_any (w : World) (a : Option Addr) (g off cap : Nat) (l : List (Id × Int)) (now : Int) (h : RdS encT 3 w a g off l) (hl : l.length ≤ 1000) :
    Calls Try.prog 17 #[.slice a l.length cap, .int .i64 now] w fun e w' => e = .returned (.int .i64 (dueT l now : Nat)) ∧ Ext w w' := by
  go_enter Try.func17, Try.ntmps17
  go_wp2
  go_loopw [5] (fun s5 wr => ∃ k : Nat, k ≤ l.length ∧ s5 = .int .i64 k ∧ (∀ p ∈ l.take k, p.2 ≤ now) ∧ Ext w wr) (fun s5 _ => l.length - (intOf s5).toNat)
  case atStart => exact ⟨0, Nat.zero_le _, rfl, fun p hp => by simp at hp, Ext.refl _⟩
  case round =>
    obtain ⟨k, hk, rfl, hno, hbw⟩ := hrel
    by_cases hlt : k < l.length
    · have hx := h.index (P := Try.prog) Try.underlying26 sizeT hlt cap
      have h1 := h.below hbw.below
      have c2 := RdT2 h1 hlt
      have hsnoc := take_snoc' hlt
      have hget : l[k]? = some l[k] := by simp [hlt]
      generalize l[k] = x at *
      by_cases hxi : x.2 ≤ now
      · have hno' : ∀ p ∈ l.take (k + 1), p.2 ≤ now := by
          intro p hp
          rw [hsnoc] at hp
          rcases List.mem_append.1 hp with hp | hp
          · exact hno p hp
          · simp at hp; subst hp; exact hxi
        clear hsnoc h h1 hno hget
        go_wp2
        go_roundw
        case rel => exact ⟨k + 1, by omega, by go_num, hno', hbw⟩
        case measure => simp [intOf]; omega
      · have hf := dueT_at hno hk (fun p hp => by rw [hget] at hp; cases hp; exact hxi)
        have HF := hid hf
        clear hsnoc hf h h1 hno hget
        go_wp2
        go_ret
        exact ⟨by rw [HF.out]; rfl, hbw⟩
    · have hk' : l.take k = l := List.take_of_length_le (by omega)
      have hf := dueT_at hno hk (fun p hp => by rw [List.getElem?_eq_none (by omega)] at hp; cases hp)
      have HF := hid hf
      clear hf hno h hk'
      go_wp2
      go_ret
      exact ⟨by rw [HF.out]; rfl, hbw⟩

/-- Is a timer ahead of another one? -/
def aheadT (a b : Id × Int) : Bool := decide (a.2 < b.2 ∨ a.2 = b.2 ∧ lessId a.1 b.1 = true)
theorem aheadT_eq (a b : Id × Int) : aheadT a b = (decide (a.2 < b.2) || (a.2 == b.2) && lessId a.1 b.1) := by unfold aheadT; rw [Bool.eq_iff_iff]; simp

set_option maxRecDepth 100000 in
set_option maxHeartbeats 400000 in
theorem RefAhead_any (w : World) (x y : Id × Int) :
    Calls Try.prog 37 #[.agg #[.int .i64 x.1.r, .int .i64 x.1.n, .int .i64 x.2], .agg #[.int .i64 y.1.r, .int .i64 y.1.n, .int .i64 y.2]] w fun e w' => e = .returned (.bool (aheadT x y)) ∧ Ext w w' := by
  have H := aheadT_eq x y
  by_cases h1 : x.2 < y.2
  · have HH := hid (show aheadT x y = true by rw [H]; simp [h1])
    clear H
    go_enter Try.func37, Try.ntmps37
    go_wp2
    go_ret
    exact ⟨by rw [HH.out]; rfl, ((Ext.refl w).alloc _).alloc _⟩
  · by_cases h2 : x.2 = y.2
    · have h2' : (x.2 == y.2) = true := by simpa using h2
      have h1' : decide (x.2 < y.2) = false := by simpa using h1
      have HH := hid (show aheadT x y = lessId x.1 y.1 by rw [H]; simp [h1', h2'])
      clear H h1 h2
      go_enter Try.func37, Try.ntmps37
      go_wp2_with fail
      refine (RefLess_any x.1 y.1 _).mono ?_
      rintro e w' ⟨rfl, he⟩
      go_wp2
      go_ret
      exact ⟨by rw [HH.out]; rfl, (((Ext.refl w).alloc _).alloc _).trans he⟩
    · have h2' : (x.2 == y.2) = false := by simpa using h2
      have h1' : decide (x.2 < y.2) = false := by simpa using h1
      have HH := hid (show aheadT x y = false by rw [H]; simp [h1', h2'])
      clear H h1 h2
      go_enter Try.func37, Try.ntmps37
      go_wp2
      go_ret
      exact ⟨by rw [HH.out]; rfl, ((Ext.refl w).alloc _).alloc _⟩

/-- Timers in their order, with one more: the text's own loop. -/
def insLoop (t : Id × Int) : List (Id × Int) → Bool → List (Id × Int) × Bool
  | [], d => ([], d)
  | x :: r, d => if !d && aheadT t x then (let z := insLoop t r true; (t :: x :: z.1, z.2)) else (let z := insLoop t r d; (x :: z.1, z.2))
def insT (l : List (Id × Int)) (t : Id × Int) : List (Id × Int) := let z := insLoop t l false; if z.2 then z.1 else z.1 ++ [t]
theorem insLoop_snoc (t x : Id × Int) : ∀ (l : List (Id × Int)) (d : Bool), insLoop t (l ++ [x]) d =
    if !(insLoop t l d).2 && aheadT t x then ((insLoop t l d).1 ++ [t, x], true) else ((insLoop t l d).1 ++ [x], (insLoop t l d).2)
  | [], d => by
    simp only [List.nil_append, insLoop]
    by_cases h : (!d && aheadT t x) = true
    · simp only [h, if_true]
    · simp only [h, Bool.false_eq_true, if_false]
  | y :: r, d => by
    simp only [List.cons_append, insLoop]
    by_cases h : (!d && aheadT t y) = true
    · simp only [h, if_true]
      rw [insLoop_snoc t x r true]
      split <;> simp
    · simp only [h, Bool.false_eq_true, if_false]
      rw [insLoop_snoc t x r d]
      split <;> simp
theorem insLoop_len (t : Id × Int) : ∀ (l : List (Id × Int)) (d : Bool), (insLoop t l d).1.length ≤ l.length + if d then 0 else 1
  | [], d => by simp [insLoop]
  | y :: r, d => by
    simp only [insLoop]
    have h1 := insLoop_len t r true
    have h2 := insLoop_len t r d
    split
    · rename_i h
      have : d = false := by cases d <;> simp_all
      subst this
      simp at h1 ⊢
      omega
    · simp only [List.length_cons]
      omega

/-- Set: the timers but the id's, and the new one in its place. -/
def setT (l : List (Id × Int)) (t : Id × Int) : List (Id × Int) := insT (adel l t.1) t

set_option maxRecDepth 100000 in
set_option maxHeartbeats 800000 in
theorem RefSet_any (w : World) (a : Option Addr) (g off cap : Nat) (l : List (Id × Int)) (t : Id × Int) (h : RdS encT 3 w a g off l) (hl : l.length ≤ 1000) :
    Calls Try.prog 13 #[.slice a l.length cap, .agg #[.int .i64 t.1.r, .int .i64 t.1.n, .int .i64 t.2]] w fun e w' => ∃ v, e = .returned v ∧ Owns w.heap.size 35 encT 3 w' v (setT l t) ∧ Below w.heap.size w w' := by
  go_enter Try.func13, Try.ntmps13
  go_wp2_with fail
  refine (RefOut_any _ a g off cap l t.1 (h.below ((Ext.refl w).alloc _).below) hl).mono ?_
  rintro e w1 ⟨v, rfl, hown, hb1⟩
  have hr := Owns.rd encT_len hown
  have hn : (adel l t.1).length ≤ 1000 := Nat.le_trans (List.length_filter_le _ _) hl
  obtain ⟨L, hL⟩ : ∃ L, adel l t.1 = L := ⟨_, rfl⟩
  have HR := hid (show setT l t = insT L t by unfold setT; rw [hL])
  rw [hL] at hown hr hn
  clear hL h
  obtain ⟨aL, gL, oL, cL, rfl, hcL, hrL, hnL⟩ := hr
  have e0 : w1.cell? ⟨w.heap.size, 0, none⟩ = some (.int .i64 t.1.r) := by rw [hb1.cell (p := ⟨w.heap.size, 0, none⟩) (by simp)]; simp
  have e1 : w1.cell? ⟨w.heap.size, 1, none⟩ = some (.int .i64 t.1.n) := by rw [hb1.cell (p := ⟨w.heap.size, 1, none⟩) (by simp)]; simp
  have e2 : w1.cell? ⟨w.heap.size, 2, none⟩ = some (.int .i64 t.2) := by rw [hb1.cell (p := ⟨w.heap.size, 2, none⟩) (by simp)]; simp
  have hz : w.heap.size < w1.heap.size := by have := hb1.size; simp at this; omega
  have hbw : Below w.heap.size w w1 := ((Ext.refl w).alloc _).below.trans (hb1.mono (by simp))
  clear hb1 hcL hnL hown
  go_wp2_with fail
  go_loopw [5, 6, 8] (fun s5 s6 s8 wr => ∃ k : Nat, k ≤ L.length ∧ s8 = .int .i64 k ∧ s6 = .bool (insLoop t (L.take k) false).2 ∧ Owns w1.heap.size 35 encT 3 wr s5 (insLoop t (L.take k) false).1 ∧ Below w1.heap.size w1 wr) (fun _ _ s8 _ => L.length - (intOf s8).toNat)
  case atStart => exact ⟨0, Nat.zero_le _, rfl, rfl, Owns.nil _ _ _ _ _, Below.refl _ _⟩
  case round =>
    obtain ⟨k, hk, rfl, rfl, hown, hb⟩ := hrel
    have hlen := insLoop_len t (L.take k) false
    have hlen2 : (L.take k).length ≤ 1000 := Nat.le_trans (List.length_take_le' _ _) hn
    have tcells : ∀ W, Below w1.heap.size w1 W → W.cell? ⟨w.heap.size, 0, none⟩ = some (.int .i64 t.1.r) ∧ W.cell? ⟨w.heap.size, 1, none⟩ = some (.int .i64 t.1.n) ∧ W.cell? ⟨w.heap.size, 2, none⟩ = some (.int .i64 t.2) := fun W hW =>
      ⟨(hW.cell (p := ⟨w.heap.size, 0, none⟩) hz).trans e0, (hW.cell (p := ⟨w.heap.size, 1, none⟩) hz).trans e1, (hW.cell (p := ⟨w.heap.size, 2, none⟩) hz).trans e2⟩
    by_cases hlt : k < L.length
    · have hx := hrL.index (P := Try.prog) Try.underlying26 sizeT hlt cL
      have xcells : ∀ W, Below w1.heap.size w1 W → W.cell? ⟨gL, oL + k * 3, none⟩ = some (.int .i64 L[k].1.r) ∧ W.cell? ⟨gL, oL + k * 3 + 1, none⟩ = some (.int .i64 L[k].1.n) ∧ W.cell? ⟨gL, oL + k * 3 + 2, none⟩ = some (.int .i64 L[k].2) := fun W hW =>
        ⟨RdT0 (hrL.below hW) hlt, RdT1 (hrL.below hW) hlt, RdT2 (hrL.below hW) hlt⟩
      have hgl : gL < w1.heap.size := hrL.lt (by intro e; subst e; simp at hlt)
      have hsnoc := take_snoc' hlt
      have hins := insLoop_snoc t L[k] (L.take k) false
      rw [← hsnoc] at hins
      generalize L[k] = x at *
      generalize (insLoop t (L.take k) false) = z at *
      obtain ⟨zl, zd⟩ := z
      simp only at hlen hown hins
      clear hsnoc e0 e1 e2
      have TC := hid tcells
      have XC := hid xcells
      clear tcells xcells
      have hbs := hb.size
      by_cases hzd : zd = true
      · subst hzd
        simp only [Bool.not_true, Bool.false_and, Bool.false_eq_true, if_false] at hins
        have HI := hid hins
        clear hins
        obtain ⟨f0, f1, f2⟩ := TC.out wr hb
        obtain ⟨c0, c1, c2⟩ := XC.out wr hb
        go_wp2_with fail
        go_quiet (fail)
        go_wp2_with (at_builtin; refine wpList_push elemT rfl _ _ rfl w1.heap.size _ zl rfl ((hown.alloc _).drewN nq) wr.heap.size 1 x rfl (cells_new _ _ _) (by simp at hlen; omega) (by simp; omega) ?_; intro v' w2 hown' hgrow)
        go_roundw
        case rel => exact ⟨k + 1, by omega, by go_num, by rw [HI.out], by rw [HI.out]; exact hown', Owns.push ((hown.alloc _).drewN nq) (bdrewN (hb.alloc hb.size _) nq) hgrow (by simp; omega)⟩
        case measure => simp [intOf]; omega
      · have hzf : zd = false := by cases zd <;> simp_all
        subst hzf
        clear hzd
        simp only [Bool.not_false, Bool.true_and] at hins
        have hA := fun W => RefAhead_any W t x
        obtain ⟨f0, f1, f2⟩ := TC.out wr hb
        obtain ⟨c0, c1, c2⟩ := XC.out wr hb
        have F0 := gcell (by omega) f0
        have F1 := gcell (by omega) f1
        have F2 := gcell (by omega) f2
        have C0 := gcell (by omega) c0
        have C1 := gcell (by omega) c1
        have C2 := gcell (by omega) c2
        clear f0 f1 f2 c0 c1 c2
        by_cases hat : aheadT t x = true
        · rw [hat] at hA
          rw [if_pos hat] at hins
          have HI := hid hins
          have HA := hid hA
          clear hins hA hat
          go_wp2_with fail
          refine wp_region_quiet_grown (by kernel_rfl) (by kernel_rfl) ?_
          repeat (quiet_step ((go_at_call 37; exact Calls.grown_of (HA.out _))))
          refine wpQuiet_nil ?_
          intro _ hw'
          obtain ⟨⟨nq, osq⟩, hw''⟩ := hw'
          subst hw''
          clear F0 F1 F2 C0 C1 C2
          obtain ⟨wq, hwq⟩ : ∃ wq, wq = Sort.grow (wr.drewN nq) osq := ⟨_, rfl⟩
          have hE : Ext wr wq := ⟨nq, osq, hwq⟩
          rw [← hwq]
          clear hwq
          have hbq : Below w1.heap.size w1 wq := hb.trans (hE.below.mono hbs)
          have hownq := hown.ext hE
          have hqs := hE.size
          obtain ⟨f0, f1, f2⟩ := TC.out wq hbq
          obtain ⟨c0, c1, c2⟩ := XC.out wq hbq
          go_wp2_with (first | (at_builtin; refine wpList_push elemT rfl _ _ rfl w1.heap.size _ zl rfl (hownq.alloc _) wq.heap.size 1 t rfl (cells_new _ _ _) (by simp at hlen; omega) (by simp; omega) ?_; intro v2 w2 hown2 hgrow2; have hb2 := Owns.push (hownq.alloc _) (hbq.alloc hbq.size _) hgrow2 (by simp; omega); have hs2 := hb2.size; obtain ⟨c0', c1', c2'⟩ := XC.out w2 hb2) | (at_builtin; refine wpList_push elemT rfl _ _ rfl w1.heap.size _ (zl ++ [t]) rfl (hown2.alloc _) w2.heap.size 1 x rfl (cells_new _ _ _) (by simp at hlen ⊢; omega) (by simp; omega) ?_; intro v3 w3 hown3 hgrow3))
          go_roundw
          case rel => exact ⟨k + 1, by omega, by go_num, by rw [HI.out], by rw [HI.out]; rw [List.append_assoc] at hown3; exact hown3, Owns.push (hown2.alloc _) (hb2.alloc hb2.size _) hgrow3 (by simp; omega)⟩
          case measure => simp [intOf]; omega
        · rw [if_neg hat] at hins
          rw [show aheadT t x = false by simpa using hat] at hA
          have HI := hid hins
          have HA := hid hA
          clear hins hA hat
          go_wp2_with fail
          refine wp_region_quiet_grown (by kernel_rfl) (by kernel_rfl) ?_
          repeat (quiet_step ((go_at_call 37; exact Calls.grown_of (HA.out _))))
          refine wpQuiet_nil ?_
          intro _ hw'
          obtain ⟨⟨nq, osq⟩, hw''⟩ := hw'
          subst hw''
          clear F0 F1 F2 C0 C1 C2
          obtain ⟨wq, hwq⟩ : ∃ wq, wq = Sort.grow (wr.drewN nq) osq := ⟨_, rfl⟩
          have hE : Ext wr wq := ⟨nq, osq, hwq⟩
          rw [← hwq]
          clear hwq
          have hbq : Below w1.heap.size w1 wq := hb.trans (hE.below.mono hbs)
          have hownq := hown.ext hE
          have hqs := hE.size
          obtain ⟨c0, c1, c2⟩ := XC.out wq hbq
          go_wp2_with (at_builtin; refine wpList_push elemT rfl _ _ rfl w1.heap.size _ zl rfl (hownq.alloc _) wq.heap.size 1 x rfl (cells_new _ _ _) (by simp at hlen; omega) (by simp; omega) ?_; intro v2 w2 hown2 hgrow2)
          go_roundw
          case rel => exact ⟨k + 1, by omega, by go_num, by rw [HI.out], by rw [HI.out]; exact hown2, Owns.push (hownq.alloc _) (hbq.alloc hbq.size _) hgrow2 (by simp; omega)⟩
          case measure => simp [intOf]; omega
    · have hk' : L.take k = L := List.take_of_length_le (by omega)
      rw [hk'] at hown hlen
      rw [hk']
      have hbs := hb.size
      have hbf := below_trans' hbw hb
      obtain ⟨f0, f1, f2⟩ := tcells wr hb
      clear hk' tcells e0 e1 e2
      have HZ := HR.out
      unfold insT at HZ
      generalize (insLoop t L false) = z at *
      obtain ⟨zl, zd⟩ := z
      simp only at hown hlen HZ
      cases zd with
      | true =>
        have HY := hid HZ
        clear HZ HR
        go_wp2
        go_ret
        exact ⟨_, rfl, by rw [HY.out]; exact hown.mono (by have := hbw.size; omega), hbf⟩
      | false =>
        have HY := hid HZ
        clear HZ HR
        go_wp2_with (at_builtin; refine wpList_push elemT rfl _ _ rfl w1.heap.size _ zl rfl (hown.alloc _) wr.heap.size 1 t rfl (cells_new _ _ _) (by simp at hlen; omega) (by simp; omega) ?_; intro v2 w2 hown2 hgrow2)
        go_ret
        exact ⟨_, rfl, by rw [HY.out]; exact hown2.mono (by have := hbw.size; omega), below_trans' hbw (Owns.push (hown.alloc _) (hb.alloc hb.size _) hgrow2 (by simp; omega))⟩
end Go.Proofs.Ytlepfohhfngndaa
