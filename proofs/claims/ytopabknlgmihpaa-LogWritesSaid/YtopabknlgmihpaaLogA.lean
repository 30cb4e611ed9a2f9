/- The log's small functions: four, num.Put and num.Take of small numbers, slices.Equal. -/
import Derived.Test.YtopabknlgmihpaaCrc
import Derived.Test.YtopabknlgmihpaaRegion
import Derived.Lib.AppendZeros
namespace Go.Proofs.Ytopabknlgmihpaa
open Go Go.RowKit Go.MapKept Go.ChangeMaps Go.Maps

/-- A number's lowest byte. -/
def b8 (x : Int) : UInt8 := UInt8.ofNat (x % 256).toNat
theorem b8_val (x : Int) : ((b8 x).toNat : Int) = x % 256 := by
  unfold b8
  rw [UInt8.toNat_ofNat']
  omega
theorem b8_wrap (x : Int) : IntKind.u8.wrap x = ((b8 x).toNat : Int) := by
  rw [b8_val]
  simp [IntKind.wrap, IntKind.signed, IntKind.bits]
/-- A sum's four bytes. -/
def fourB (s : Int) : List UInt8 := [b8 (s / 16777216), b8 (s / 65536), b8 (s / 256), b8 s]
theorem OwnB.of_block {w : World} {g : Nat} {l : List UInt8} (h : w.heap[g]? = some (.cells (l.map vB).toArray 5 (0, 0))) (hl : l.length ≤ maxLen) : OwnB w (.slice (some ⟨g, 0, none⟩) l.length l.length) l :=
  Or.inr ⟨g, l.length, _, rfl, h, Nat.le_refl _, hl, by simp, by rw [List.toList_toArray, List.take_of_length_le (by simp)]⟩
set_option maxRecDepth 100000 in
set_option maxHeartbeats 1600000 in
theorem four_any (w : World) (s : Int) (h0 : 0 ≤ s) (h1 : s ≤ 4294967295) : Calls Try.prog 72 #[.int .u32 s] w fun e w' => ∃ v, e = .returned v ∧ OwnB w' v (fourB s) ∧ (∀ g, v.ownBlock = some g → w.heap.size ≤ g) ∧ Ext w w' := by
  have HV := hid (show [Value.int .u8 (s / 16777216), .int .u8 (s / 65536 % 256), .int .u8 (s / 256 % 256), .int .u8 (s % 256)] = (fourB s).map vB by
    simp only [fourB, vB, b8_val, List.map_cons, List.map_nil]
    congr 2
    omega)
  go_enter Try.func72, Try.ntmps72
  go_wp2
  go_ret
  refine ⟨.slice (some ⟨w.heap.size, 0, none⟩) 4 4, rfl, OwnB.of_block (l := fourB s) ?_ (by unfold maxLen fourB; simp), fun g hg => (by cases hg; exact Nat.le_refl _), (Ext.refl w).alloc _⟩
  rw [← HV.out]
  exact heap_alloc_new w _
theorem ofNat_val {n : Nat} (h : n < 256) : ((UInt8.ofNat n).toNat : Int) = n := by
  rw [UInt8.toNat_ofNat']
  omega
set_option maxRecDepth 100000 in
set_option maxHeartbeats 1600000 in
theorem PutSmall_any (w : World) (n : Nat) (hn : n < 248) : Calls Try.prog 70 #[.slice none 0 0, .int .u64 n] w fun e w' => ∃ v, e = .returned v ∧ OwnB w' v [UInt8.ofNat n] ∧ (∀ g, v.ownBlock = some g → w.heap.size ≤ g) ∧ Below w.heap.size w w' := by
  have hr : RdS encB 1 (w.alloc (.cells #[.int .u8 n] 5)) (some ⟨w.heap.size, 0, none⟩) w.heap.size 0 [UInt8.ofNat n] := ⟨fun _ => rfl, fun _ => by simp, fun i x hx j y hy => by
    have hi : i = 0 := by have := (List.getElem?_eq_some_iff.1 hx).1; simp at this; exact this
    have hj : j = 0 := by have := (List.getElem?_eq_some_iff.1 hy).1; simp [encB] at this; exact this
    subst hi hj
    simp only [List.getElem?_cons_zero, Option.some.injEq] at hx
    subst hx
    simp only [encB, List.getElem?_cons_zero, Option.some.injEq] at hy
    subst hy
    have := heap_alloc_new w (.cells #[.int .u8 n] 5)
    simp only [World.cell?, this, vB, ofNat_val (show n < 256 by omega)]
    simp⟩
  have HS := hid (Src.ofRd (cap := 1) hr)
  clear hr
  go_enter Try.func70, Try.ntmps70
  go_wp2_with (at_builtin; go_must (refine wpList_append_B rfl _ _ rfl _ [] [UInt8.ofNat n] rfl (OwnB.nil _) _ rfl HS.out (by simp) ?_))
  intro v' w' hown' hgrow hat
  have HB := hid (show Below w.heap.size w w' from ((Ext.refl w).alloc _).below.grown hgrow (by simp) (fun g hg => by cases hg))
  have HO := hid hown'
  have HA := hid (show ∀ g, v'.ownBlock = some g → w.heap.size ≤ g from fun g hg => by
    rcases hat with h | h
    · rw [h] at hg; cases hg
    · rw [h] at hg; simp at hg; omega)
  clear hown' hgrow hat
  go_wp2
  go_ret
  exact ⟨_, rfl, HO.out, HA.out, HB.out⟩
set_option maxRecDepth 100000 in
set_option maxHeartbeats 1600000 in
theorem TakeNil_any (w : World) (a : Option Addr) (cap : Nat) : Calls Try.prog 90 #[.slice a 0 cap] w fun e w' => e = .returned (.tuple #[.int .u64 0, .int .i64 0, .int .i64 2]) ∧ w' = w := by
  go_enter Try.func90, Try.ntmps90
  go_wp2
  exact bodyPost_ret (v := .tuple #[.int .u64 0, .int .i64 0, .int .i64 2]) (by simp [results, Try.results90, go_sem]) rfl ⟨rfl, rfl⟩
set_option maxRecDepth 100000 in
set_option maxHeartbeats 1600000 in
theorem TakeSmall_any (w : World) (a : Option Addr) (g off cap : Nat) (c : UInt8) (r : List UInt8) (h : RdS encB 1 w a g off (c :: r)) (hc : c.toNat < 248) : Calls Try.prog 90 #[.slice a (c :: r).length cap] w fun e w' => e = .returned (.tuple #[.int .u64 c.toNat, .int .i64 1, .int .i64 0]) ∧ w' = w := by
  have hx : ∀ W, (Instr.indexAt 22 (.slice a (c :: r).length cap) (.int .i64 0)).run Try.prog W = .ok (.pointer (some ⟨g, off, none⟩)) W := fun W => by simpa using indexB h (i := 0) (by simp) cap W
  have c0 : w.cell? ⟨g, off, none⟩ = some (.int .u8 c.toNat) := by simpa using RdB h (k := 0) rfl
  have hlen : (((c :: r).length : Int) == 0) = false := by simp; omega
  generalize (c :: r).length = n at *
  clear h
  go_enter Try.func90, Try.ntmps90
  go_wp2
  exact bodyPost_ret (v := .tuple #[.int .u64 c.toNat, .int .i64 1, .int .i64 0]) (by simp [results, Try.results90, go_sem]) rfl ⟨rfl, rfl⟩
set_option maxRecDepth 100000 in
set_option maxHeartbeats 1600000 in
theorem EqualB_any (w : World) (a : Option Addr) (g off cap : Nat) (l : List UInt8) (a' : Option Addr) (g' off' cap' : Nat) (m : List UInt8) (h : RdS encB 1 w a g off l) (h' : RdS encB 1 w a' g' off' m) (hl : l.length ≤ 70368744177664) (hm : m.length ≤ 70368744177664) :
    Calls Try.prog 91 #[.slice a l.length cap, .slice a' m.length cap'] w fun e w' => e = .returned (.bool (decide (l = m))) ∧ Ext w w' := by
  by_cases hlm : l.length = m.length
  · have hlm' : ((l.length : Int) != (m.length : Int)) = false := by rw [hlm]; simp
    have HLM := hid hlm
    clear hlm
    go_enter Try.func91, Try.ntmps91
    go_wp2
    go_loopw [13] (fun s13 wr => ∃ k : Nat, k ≤ l.length ∧ s13 = .int .i64 k ∧ l.take k = m.take k ∧ Ext w wr) (fun s13 _ => l.length - (intOf s13).toNat)
    case atStart => exact ⟨0, Nat.zero_le _, rfl, by simp, Ext.refl _⟩
    case round =>
      obtain ⟨k, hk, rfl, hno, hb⟩ := hrel
      by_cases hlt : k < l.length
      · have hltm : k < m.length := by have := HLM.out; omega
        have hx := indexB h hlt cap
        have hy := indexB h' hltm cap'
        have hgl : l[k]? = some l[k] := by simp [hlt]
        have hgm : m[k]? = some m[k] := by simp [hltm]
        have c0 := RdB (h.below hb.below) hgl
        have d0 := RdB (h'.below hb.below) hgm
        have hsnoc : l.take (k + 1) = l.take k ++ [l[k]] := List.take_succ_eq_append_getElem hlt
        have hsnoc' : m.take (k + 1) = m.take k ++ [m[k]] := List.take_succ_eq_append_getElem hltm
        generalize l[k] = x at *
        generalize m[k] = y at *
        by_cases hxi : x = y
        · have hd : ((x.toNat : Int) != (y.toNat : Int)) = false := by rw [hxi]; simp
          have HN := hid (show l.take (k + 1) = m.take (k + 1) by rw [hsnoc, hsnoc', hno, hxi])
          have HB := hid hb
          clear hsnoc hsnoc' hxi hno hb hgl hgm
          go_wp2
          go_quiet (fail)
          go_wp2
          go_roundw
          case rel => exact ⟨k + 1, by omega, by go_num, HN.out, HB.out.drewN _⟩
          case measure => simp [intOf]; omega
        · have hd : ((x.toNat : Int) != (y.toNat : Int)) = true := by
            simp
            intro h0
            exact hxi (UInt8.toNat_inj.1 (by omega))
          have HN := hid (show decide (l = m) = false by
            have hne : l ≠ m := fun e0 => by
              subst e0
              rw [hgl] at hgm
              exact hxi (Option.some.inj hgm)
            simpa using hne)
          have HB := hid hb
          clear hsnoc hsnoc' hxi hno hb hgl hgm
          go_wp2
          go_quiet (fail)
          go_wp2
          go_ret
          exact ⟨by rw [HN.out]; rfl, HB.out.drewN _⟩
      · have hk' : l.take k = l := List.take_of_length_le (by omega)
        have hk2 : m.take k = m := List.take_of_length_le (by have := HLM.out; omega)
        rw [hk', hk2] at hno
        have HN := hid (show decide (l = m) = true by simpa using hno)
        have HB := hid hb
        clear hno hk' hk2 hb h h'
        go_wp2
        go_ret
        exact ⟨by rw [HN.out]; rfl, HB.out⟩
  · have hlm' : ((l.length : Int) != (m.length : Int)) = true := by simp; omega
    have HN := hid (show decide (l = m) = false by
      have hne : l ≠ m := fun e0 => hlm (by rw [e0])
      simpa using hne)
    clear hlm h h'
    go_enter Try.func91, Try.ntmps91
    go_wp2
    go_ret
    exact ⟨by rw [HN.out]; rfl, Ext.refl _⟩
set_option maxRecDepth 100000 in
set_option maxHeartbeats 1600000 in
theorem GrowB_any (w : World) (n : Nat) (h0 : 0 < n) (hn : n ≤ 1073741824) : Calls Try.prog 87 #[.slice none 0 0, .int .i64 n] w fun e w' => ∃ v, e = .returned v ∧ OwnB w' v [] ∧ (∀ g, v.ownBlock = some g → w.heap.size ≤ g) ∧ Below w.heap.size w w' := by
  obtain ⟨i, z, hi, hz, hsz, hby, hzs⟩ := elemB.info
  have hrun := Lib.run_append_nil_zeros (P := Try.prog) w 22 3 22 5 i z .i64 .i64 Try.underlying22 Try.underlying3 hi hz n h0 (by omega) (by omega) (by rw [hby]; omega)
  have hge := grownCap_ge w n 0 5
  have hcm : grownCap w n 0 5 ≤ maxLen := grownCap_le_maxLen w n 0 5 (by unfold maxLen; omega)
  generalize grownCap w n 0 5 = gc at *
  have hown : OwnB (w.drew.alloc (.cells (Builtin.zeroCells z.cells n ++ Builtin.zeroCells z.cells (gc - n)) 5)) (.slice (some ⟨w.heap.size, 0, none⟩) 0 gc) [] :=
    Or.inr ⟨w.heap.size, gc, _, rfl, heap_alloc_new w.drew _, Nat.zero_le _, hcm, by simp only [Array.size_append, size_zeroCells, hzs]; omega, by simp⟩
  have hB : Below w.heap.size w (w.drew.alloc (.cells (Builtin.zeroCells z.cells n ++ Builtin.zeroCells z.cells (gc - n)) 5)) := (((Ext.refl w).drew).alloc _).below
  obtain ⟨w', hw'⟩ : ∃ w', w' = w.drew.alloc (.cells (Builtin.zeroCells z.cells n ++ Builtin.zeroCells z.cells (gc - n)) 5) := ⟨_, rfl⟩
  rw [← hw'] at hrun hown hB
  have hs2 : ∀ W, (Instr.slice 22 (.slice (some ⟨w.heap.size, 0, none⟩) n gc) none (some (.int .i64 0)) none).run Try.prog W = .ok (.slice (some ⟨w.heap.size, 0, none⟩) 0 gc) W := fun W => by
    have h1 : gc ≠ 0 := by omega
    simp [Instr.slice, run_underlying Try.underlying22, sizeB, Instr.sliceBounds, Instr.sliceBound, asIntOf, h1, Addr.add]
  have hs1 : ∀ W, (Instr.slice 22 (.slice none 0 0) none (some (.int .i64 0)) none).run Try.prog W = .ok (.slice none 0 0) W := fun W => by
    simp [Instr.slice, run_underlying Try.underlying22, sizeB, Instr.sliceBounds, Instr.sliceBound, asIntOf]
  have HO := hid hown
  have HB := hid hB
  have HRUN := hid hrun
  clear hi hz hsz hby hzs hge hcm hown hB hw' hrun
  go_enter Try.func87, Try.ntmps87
  go_wp2_with (at_builtin; refine Lib.wpList_append_run _ rfl _ _ _ _ rfl _ _ rfl rfl _ _ HRUN.out ?_)
  go_ret
  exact ⟨_, rfl, HO.out, fun g hg => (by cases hg; exact Nat.le_refl _), HB.out⟩
def sumBS (l : List BS) : Nat := (l.map (fun x => x.bs.length)).sum
theorem sumBS_flat (l : List BS) : (l.flatMap (fun x => x.bs)).length = sumBS l := by
  unfold sumBS
  rw [List.length_flatMap]
theorem flat_snoc {l : List BS} {k : Nat} (h : k < l.length) : (l.take (k + 1)).flatMap (fun x => x.bs) = (l.take k).flatMap (fun x => x.bs) ++ l[k].bs := by
  rw [List.take_succ_eq_append_getElem h, List.flatMap_append]; simp
theorem sum_snoc {l : List BS} {k : Nat} (h : k < l.length) : sumBS (l.take (k + 1)) = sumBS (l.take k) + l[k].bs.length := by
  rw [← sumBS_flat, ← sumBS_flat, flat_snoc h, List.length_append]
theorem sum_le (l : List BS) (k : Nat) : sumBS (l.take k) ≤ sumBS l := by
  have h : sumBS (l.take k ++ l.drop k) = sumBS (l.take k) + sumBS (l.drop k) := by unfold sumBS; rw [List.map_append, List.sum_append]
  rw [List.take_append_drop] at h
  omega
set_option maxRecDepth 100000 in
set_option maxHeartbeats 1600000 in
theorem ConcatB_any (w : World) (a : Option Addr) (g off cap : Nat) (l : List BS) (h : RdS encBS 1 w a g off l) (hO : ∀ x ∈ l, OkBS w x) (hl : l.length ≤ 1000) (h0 : 0 < sumBS l) (hb : sumBS l ≤ 1073741824) :
    Calls Try.prog 71 #[.slice a l.length cap] w fun e w' => ∃ v, e = .returned v ∧ OwnB w' v (l.flatMap (fun x => x.bs)) ∧ (∀ g, v.ownBlock = some g → w.heap.size ≤ g) ∧ Below w.heap.size w w' := by
  have HG := hid (GrowB_any w (sumBS l) h0 hb)
  have HO := hid hO
  have HSL := hid (sum_le l)
  clear hO
  go_enter Try.func71, Try.ntmps71
  go_wp2_with fail
  go_loop [3, 11] (fun s3 s11 => ∃ k : Nat, k ≤ l.length ∧ s11 = .int .i64 k ∧ s3 = .int .i64 (sumBS (l.take k) : Nat)) (fun _ s11 => l.length - (intOf s11).toNat)
  case atStart => exact ⟨0, Nat.zero_le _, rfl, rfl⟩
  case round =>
    obtain ⟨k, hk, rfl, rfl⟩ := hrel
    by_cases hlt : k < l.length
    · have hx := indexBS h hlt cap
      have hget : l[k]? = some l[k] := by simp [hlt]
      have c0 := RdBS h hget
      have HSN := hid (sum_snoc hlt)
      have h1 : sumBS (l.take k) + l[k].bs.length ≤ 1073741824 := by have := HSL.out (k + 1); rw [HSN.out] at this; omega
      generalize l[k] = x at *
      generalize sumBS (l.take k) = s at *
      have h2 : ¬ ((s : Int) + (x.bs.length : Int) < 0) := by omega
      clear hget
      go_wp2_with fail
      go_round
      case rel => exact ⟨k + 1, by omega, by go_num, by rw [HSN.out]; go_num⟩
      case measure => simp [intOf]; omega
    · have hk' : l.take k = l := List.take_of_length_le (by omega)
      rw [hk']
      clear hk'
      go_wp2_with fail
      refine HG.out.mono ?_
      rintro e w2 ⟨v0, rfl, ho, hf, hbl⟩
      have HO2 := hid ho
      have HF2 := hid hf
      have HB2 := hid hbl
      clear ho hf hbl
      go_wp2_with fail
      go_loopw [6, 27] (fun s6 s27 wr => ∃ (k : Nat) (v6 : Value), k ≤ l.length ∧ s27 = .int .i64 k ∧ v6 = s6 ∧ OwnB wr v6 ((l.take k).flatMap (fun x => x.bs)) ∧ (∀ g, v6.ownBlock = some g → w.heap.size ≤ g) ∧ Below w.heap.size w wr) (fun _ s27 _ => l.length - (intOf s27).toNat)
      case atStart => exact ⟨0, v0, Nat.zero_le _, rfl, rfl, HO2.out, HF2.out, HB2.out⟩
      case round =>
        obtain ⟨k, v6, hk, rfl, rfl, hown, hfr, hbl⟩ := hrel
        by_cases hlt : k < l.length
        · have hx := indexBS h hlt cap
          have hget : l[k]? = some l[k] := by simp [hlt]
          have c0 := RdBS (h.below hbl) hget
          have hok := (HO.out _ (List.mem_of_getElem? hget)).below hbl
          have HFS := hid (flat_snoc hlt)
          have h1 : ((l.take k).flatMap (fun x => x.bs)).length + l[k].bs.length ≤ 1073741824 := by
            have := HSL.out (k + 1)
            rw [sum_snoc hlt] at this
            rw [sumBS_flat]
            omega
          generalize l[k] = x at *
          have HS := hid (Src.ofRd (cap := x.c) hok.r)
          have HOW := hid hown
          have HBL := hid hbl
          have HFR := hid hfr
          clear hget hok hown hbl hfr
          go_wp2_with (at_builtin; go_must (refine wpList_append_B rfl _ _ rfl v6 ((l.take k).flatMap (fun x => x.bs)) x.bs rfl HOW.out _ rfl HS.out (by omega) ?_))
          intro v' w' hown' hgrow hat
          have HB3 := hid (show Below w.heap.size w w' from HBL.out.grown hgrow HBL.out.size (fun g hg => HFR.out g hg))
          have HO3 := hid hown'
          have HA3 := hid (show ∀ g, v'.ownBlock = some g → w.heap.size ≤ g from fun g hg => by
            rcases hat with h | h
            · rw [h] at hg; exact HFR.out g hg
            · rw [h] at hg; have := HBL.out.size; simp at hg; omega)
          clear hown' hgrow hat
          go_wp2
          go_roundw
          case rel => exact ⟨k + 1, _, by omega, by go_num, rfl, by rw [HFS.out]; exact HO3.out, HA3.out, HB3.out⟩
          case measure => simp [intOf]; omega
        · have hk' : l.take k = l := List.take_of_length_le (by omega)
          rw [hk'] at hown
          have HOW := hid hown
          have HBL := hid hbl
          have HFR := hid hfr
          clear hk' hown hbl hfr
          go_wp2_with fail
          go_ret
          exact ⟨_, rfl, HOW.out, HFR.out, HBL.out⟩
end Go.Proofs.Ytopabknlgmihpaa
