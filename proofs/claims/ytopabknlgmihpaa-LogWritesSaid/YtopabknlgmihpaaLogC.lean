/- The document's Sum, Form of nothing, SameAll. -/
import Derived.Test.YtopabknlgmihpaaLogB
namespace Go.Proofs.Ytopabknlgmihpaa
open Go Go.RowKit Go.MapKept Go.ChangeMaps Go.Maps

def refBit (x : Int × Int) : Int × Int := (if (x.1 % 2 != x.2 % 2) = true then bits .xor .u32 (x.1 / 2) 2197175160 else x.1 / 2, x.2 / 2)
def itR : Nat → Int × Int → Int × Int
  | 0, x => x
  | k + 1, x => refBit (itR k x)
def byteR (v : Int) (c : UInt8) : Int := (itR 8 (v, c.toNat)).1
def refSumI (l : List UInt8) : Int := 4294967295 - l.foldl byteR 4294967295
theorem itR_range {v c : Int} (h0 : 0 ≤ v) (h1 : v ≤ 4294967295) (g0 : 0 ≤ c) (g1 : c ≤ 255) : ∀ k, (0 ≤ (itR k (v, c)).1 ∧ (itR k (v, c)).1 ≤ 4294967295) ∧ (0 ≤ (itR k (v, c)).2 ∧ (itR k (v, c)).2 ≤ 255)
  | 0 => ⟨⟨h0, h1⟩, ⟨g0, g1⟩⟩
  | k + 1 => by
    obtain ⟨⟨a0, a1⟩, b0, b1⟩ := itR_range h0 h1 g0 g1 k
    unfold itR refBit
    refine ⟨?_, ?_⟩
    · simp only
      split
      · exact bits_u32 _ _ _
      · omega
    · simp only
      omega
theorem foldR_range : ∀ (l : List UInt8) (v : Int), 0 ≤ v → v ≤ 4294967295 → 0 ≤ l.foldl byteR v ∧ l.foldl byteR v ≤ 4294967295
  | [], v, h0, h1 => ⟨h0, h1⟩
  | c :: r, v, h0, h1 => by
    have := (itR_range h0 h1 (c := (c.toNat : Int)) (by omega) (by have := c.toNat_lt; omega) 8).1
    exact foldR_range r _ this.1 this.2
theorem sum_zero : refSumI [0] = crcI [0] := by decide +kernel
set_option maxRecDepth 100000 in
set_option maxHeartbeats 1600000 in
theorem RefSum_any (w : World) (a : Option Addr) (g off cap : Nat) (l : List UInt8) (h : RdS encB 1 w a g off l) (hl : l.length ≤ 1073741824) : Calls Try.prog 76 #[.slice a l.length cap] w fun e w' => e = .returned (.int .u32 (refSumI l)) ∧ w' = w := by
  go_enter Try.func76, Try.ntmps76
  go_wp2_with fail
  go_loop [3, 4] (fun s3 s4 => ∃ k : Nat, k ≤ l.length ∧ s4 = .int .i64 k ∧ s3 = .int .u32 ((l.take k).foldl byteR 4294967295)) (fun _ s4 => l.length - (intOf s4).toNat)
  case atStart => exact ⟨0, Nat.zero_le _, rfl, rfl⟩
  case round =>
    obtain ⟨k, hk, rfl, rfl⟩ := hrel
    by_cases hlt : k < l.length
    · have hx := indexB h hlt cap
      have hget : l[k]? = some l[k] := by simp [hlt]
      have c0 := RdB h hget
      have HNX := hid (show (l.take (k + 1)).foldl byteR 4294967295 = byteR ((l.take k).foldl byteR 4294967295) l[k] by
        rw [List.take_succ_eq_append_getElem hlt, List.foldl_append]; rfl)
      obtain ⟨hv0, hv1⟩ := foldR_range (l.take k) 4294967295 (by omega) (by omega)
      generalize l[k] = c at *
      generalize (l.take k).foldl byteR 4294967295 = v at *
      have hcl := c.toNat_lt
      have hcc : IntKind.u32.wrap (c.toNat : Int) = (c.toNat : Int) := by
        simp [IntKind.wrap, IntKind.signed, IntKind.bits]
        omega
      have HRG := hid (fun k => itR_range hv0 hv1 (c := (c.toNat : Int)) (by omega) (by omega) k)
      have HBY := hid (show byteR v c = (itR 8 (v, (c.toNat : Int))).1 from rfl)
      clear hget
      go_wp2_with fail
      go_loop [3, 5, 6] (fun s3 s5 s6 => ∃ j : Nat, j ≤ 8 ∧ s6 = .int .i64 j ∧ s3 = .int .u32 (itR j (v, (c.toNat : Int))).1 ∧ s5 = .int .u32 (itR j (v, (c.toNat : Int))).2) (fun _ _ s6 => 8 - (intOf s6).toNat)
      case atStart => exact ⟨0, by omega, rfl, rfl, rfl⟩
      case round =>
        obtain ⟨j, hj, rfl, rfl, rfl⟩ := hrel
        by_cases hj8 : j < 8
        · obtain ⟨⟨p0, p1⟩, q0, q1⟩ := HRG.out j
          have HS := hid (show itR (j + 1) (v, (c.toNat : Int)) = refBit (itR j (v, (c.toNat : Int))) from rfl)
          generalize itR j (v, (c.toNat : Int)) = X at *
          obtain ⟨x1, x2⟩ := X
          simp only at p0 p1 q0 q1
          cases hd : (x1 % 2 != x2 % 2) with
          | true =>
            have HS2 := hid (HS.out.trans (show refBit (x1, x2) = (bits .xor .u32 (x1 / 2) 2197175160, x2 / 2) by unfold refBit; simp only; rw [if_pos hd]))
            go_wp2_with fail
            go_round
            case rel => exact ⟨j + 1, by omega, by go_num, by rw [HS2.out], by rw [HS2.out]⟩
            case measure => simp [intOf]; omega
          | false =>
            have HS2 := hid (HS.out.trans (show refBit (x1, x2) = (x1 / 2, x2 / 2) by unfold refBit; simp only; rw [if_neg (by rw [hd]; simp)]))
            go_wp2_with fail
            go_round
            case rel => exact ⟨j + 1, by omega, by go_num, by rw [HS2.out], by rw [HS2.out]⟩
            case measure => simp [intOf]; omega
        · have hje : j = 8 := by omega
          subst hje
          rw [← HBY.out, ← HNX.out]
          go_wp2_with fail
          go_round
          case rel => exact ⟨k + 1, by omega, by go_num, rfl⟩
          case measure => simp [intOf]; omega
    · have hk' : l.take k = l := List.take_of_length_le (by omega)
      obtain ⟨p0, p1⟩ := foldR_range l 4294967295 (by omega) (by omega)
      rw [hk']
      have HCR := hid (show refSumI l = 4294967295 - l.foldl byteR 4294967295 from rfl)
      clear hk'
      generalize l.foldl byteR 4294967295 = v at *
      have hw : IntKind.u32.wrap (4294967295 - v) = 4294967295 - v := by
        simp [IntKind.wrap, IntKind.signed, IntKind.bits]
        omega
      go_wp2_with fail
      go_ret
      exact ⟨by rw [HCR.out]; rfl, rfl⟩
set_option maxRecDepth 100000 in
set_option maxHeartbeats 1600000 in
theorem SameAll_any (w : World) (a : Option Addr) (g off cap : Nat) (l : List BS) (a' : Option Addr) (g' off' cap' : Nat) (m : List BS) (h : RdS encBS 1 w a g off l) (h' : RdS encBS 1 w a' g' off' m) (hO : ∀ x ∈ l, OkBS w x) (hO' : ∀ x ∈ m, OkBS w x) (hl : l.length ≤ 1000000) (hm : m.length ≤ 1000000) (hb : ∀ x ∈ l, x.bs.length ≤ 1073741824) (hb' : ∀ x ∈ m, x.bs.length ≤ 1073741824) :
    Calls Try.prog 33 #[.slice a l.length cap, .slice a' m.length cap'] w fun e w' => e = .returned (.bool (decide (l.map (fun x => x.bs) = m.map (fun x => x.bs)))) ∧ Ext w w' := by
  obtain ⟨gb, hgb⟩ : ∃ gb, gb = decide (l.map (fun x => x.bs) = m.map (fun x => x.bs)) := ⟨_, rfl⟩
  rw [← hgb]
  have HGB := hid hgb
  clear hgb
  by_cases hlm : l.length = m.length
  · have hlm' : ((l.length : Int) != (m.length : Int)) = false := by rw [hlm]; simp
    have HLM := hid hlm
    clear hlm
    go_enter Try.func33, Try.ntmps33
    go_wp2_with fail
    go_loopw [5] (fun s5 wr => ∃ k : Nat, k ≤ l.length ∧ s5 = .int .i64 k ∧ (l.take k).map (fun x => x.bs) = (m.take k).map (fun x => x.bs) ∧ Ext w wr) (fun s5 _ => l.length - (intOf s5).toNat)
    case atStart => exact ⟨0, Nat.zero_le _, rfl, by simp, Ext.refl _⟩
    case round =>
      obtain ⟨k, hk, rfl, hno, hE⟩ := hrel
      by_cases hlt : k < l.length
      · have hltm : k < m.length := by have := HLM.out; omega
        have hx := indexBS h hlt cap
        have hy := indexBS h' hltm cap'
        have hgl : l[k]? = some l[k] := by simp [hlt]
        have hgm : m[k]? = some m[k] := by simp [hltm]
        have HXC := hid (fun W (hW : Below w.heap.size w W) => RdBS (h.below hW) hgl)
        have HYC := hid (fun W (hW : Below w.heap.size w W) => RdBS (h'.below hW) hgm)
        have hsnoc : l.take (k + 1) = l.take k ++ [l[k]] := List.take_succ_eq_append_getElem hlt
        have hsnoc' : m.take (k + 1) = m.take k ++ [m[k]] := List.take_succ_eq_append_getElem hltm
        have ho1 := hO _ (List.mem_of_getElem? hgl)
        have ho2 := hO' _ (List.mem_of_getElem? hgm)
        have hb1 := hb _ (List.mem_of_getElem? hgl)
        have hb2 := hb' _ (List.mem_of_getElem? hgm)
        generalize l[k] = x at *
        generalize m[k] = y at *
        have HC := hid (fun W (hW : Below w.heap.size w W) => RefSame_any W x.a x.g x.o x.c x.bs y.a y.g y.o y.c y.bs (ho1.below hW).r (ho2.below hW).r (by omega) (by omega))
        have HE := hid hE
        have HNO := hid hno
        have HSN := hid hsnoc
        have HSN' := hid hsnoc'
        have HGL := hid hgl
        have HGM := hid hgm
        clear hsnoc hsnoc' hno hE hgl hgm ho1 ho2
        go_wp2_with fail
        refine wp_region_C (fun W => Below w.heap.size w W) (by kernel_rfl) ?_
        have hC0 : (fun W => Below w.heap.size w W) wr.drew := HE.out.drew.below
        refine takeC (i := 0) (v := ?_) rfl (by kernel_rfl) (by kernel_rfl) (by kernel_rfl) (fun _ _ _ h => h) (by assumption) (Or.inl ⟨?_, ?_⟩) (fun K hK => ?_)
        rotate_left
        · rfl
        · (intro W hW; (have c0 := HXC.out W hW; have c1 := HYC.out W hW); go_simp; first | done | with_reducible rfl)
        (try go_simp)
        refine hK _ _ ?_
        clear hK K
        refine takeC (i := 1) (v := ?_) rfl (by kernel_rfl) (by kernel_rfl) (by kernel_rfl) (fun _ _ _ h => h) (by assumption) (Or.inl ⟨?_, ?_⟩) (fun K hK => ?_)
        rotate_left
        · rfl
        · (intro W hW; (have c0 := HXC.out W hW; have c1 := HYC.out W hW); go_simp; first | done | with_reducible rfl)
        (try go_simp)
        refine hK _ _ ?_
        clear hK K
        refine takeC (i := 2) (v := ?_) rfl (by kernel_rfl) (by kernel_rfl) (by kernel_rfl) (fun _ _ _ h => h) (by assumption) (Or.inl ⟨?_, ?_⟩) (fun K hK => ?_)
        rotate_left
        · rfl
        · (intro W hW; (have c0 := HXC.out W hW; have c1 := HYC.out W hW); go_simp; first | done | with_reducible rfl)
        (try go_simp)
        refine hK _ _ ?_
        clear hK K
        refine takeC (i := 3) (v := ?_) rfl (by kernel_rfl) (by kernel_rfl) (by kernel_rfl) (fun _ _ _ h => h) (by assumption) (Or.inl ⟨?_, ?_⟩) (fun K hK => ?_)
        rotate_left
        · rfl
        · (intro W hW; (have c0 := HXC.out W hW; have c1 := HYC.out W hW); go_simp; first | done | with_reducible rfl)
        (try go_simp)
        refine hK _ _ ?_
        clear hK K
        refine takeC (i := 4) (v := ?_) rfl (by kernel_rfl) (by kernel_rfl) (by kernel_rfl) (fun _ _ _ h => h) (by assumption) (Or.inl ⟨?_, ?_⟩) (fun K hK => ?_)
        rotate_left
        · rfl
        · (intro W hW; (have c0 := HXC.out W hW; have c1 := HYC.out W hW); go_simp; first | done | with_reducible rfl)
        (try go_simp)
        refine hK _ _ ?_
        clear hK K
        refine takeC (i := 5) (v := ?_) rfl (by kernel_rfl) (by kernel_rfl) (by kernel_rfl) (fun _ _ _ h => h) (by assumption) (Or.inl ⟨?_, ?_⟩) (fun K hK => ?_)
        rotate_left
        · rfl
        · (intro W hW; (have c0 := HXC.out W hW; have c1 := HYC.out W hW); go_simp; first | done | with_reducible rfl)
        (try go_simp)
        refine hK _ _ ?_
        clear hK K
        refine takeC (i := 6) (v := ?_) rfl (by kernel_rfl) (by kernel_rfl) (by kernel_rfl) (fun _ _ _ h => h) (by assumption) (Or.inl ⟨?_, ?_⟩) (fun K hK => ?_)
        rotate_left
        · rfl
        · (intro W hW; (have c0 := HXC.out W hW; have c1 := HYC.out W hW); go_simp; first | done | with_reducible rfl)
        (try go_simp)
        refine hK _ _ ?_
        clear hK K
        refine takeC (i := 7) (v := ?_) rfl (by kernel_rfl) (by kernel_rfl) (by kernel_rfl) (fun _ _ _ h => h) (by assumption) (Or.inl ⟨?_, ?_⟩) (fun K hK => ?_)
        rotate_left
        · rfl
        · (intro W hW; (have c0 := HXC.out W hW; have c1 := HYC.out W hW); go_simp; first | done | with_reducible rfl)
        (try go_simp)
        refine hK _ _ ?_
        clear hK K
        refine callC (k := 8) (by kernel_rfl) rfl ?_ (fun K hK => ?_)
        · rfl
        go_simp
        refine (HC.out _ hC0).mono ?_
        rintro e w3 ⟨rfl, hE3⟩
        have hC1 : (fun W => Below w.heap.size w W) w3 := hC0.trans (hE3.below.mono (HE.out.drew.size))
        have HE3 := hid (HE.out.drew.trans hE3)
        clear hE3
        go_wp2
        refine hK _ _ hC1 ?_
        clear hK K
        by_cases hxy : x.bs = y.bs
        · have hd := decide_eq_true hxy
          have HXY := hid hxy
          clear hxy
          rw [hd]
          clear hd
          refine takeC (i := 9) (v := ?_) rfl (by kernel_rfl) (by kernel_rfl) (by kernel_rfl) (fun _ _ _ h => h) (by assumption) (Or.inl ⟨?_, ?_⟩) (fun K hK => ?_)
          rotate_left
          · rfl
          · (intro W hW; (have c0 := HXC.out W hW; have c1 := HYC.out W hW); go_simp; first | done | with_reducible rfl)
          (try go_simp)
          refine hK _ _ ?_
          clear hK K
          refine doneC (by kernel_rfl) ?_
          clear hC0 hC1
          go_wp2_with fail
          go_roundw
          case rel => exact ⟨k + 1, by omega, by go_num, by rw [HSN.out, HSN'.out, List.map_append, List.map_append, HNO.out]; simp [HXY.out], HE3.out⟩
          case measure => simp [intOf]; omega
        · have hd := decide_eq_false hxy
          have HM := hid (show decide (l.map (fun x => x.bs) = m.map (fun x => x.bs)) = false by
            refine decide_eq_false (fun e0 => hxy ?_)
            have h1 := congrArg (fun z => z[k]?) e0
            simp only [List.getElem?_map, HGL.out, HGM.out, Option.map_some, Option.some.injEq] at h1
            exact h1)
          clear hxy
          rw [hd]
          clear hd
          refine takeC (i := 9) (v := ?_) rfl (by kernel_rfl) (by kernel_rfl) (by kernel_rfl) (fun _ _ _ h => h) (by assumption) (Or.inl ⟨?_, ?_⟩) (fun K hK => ?_)
          rotate_left
          · rfl
          · (intro W hW; (have c0 := HXC.out W hW; have c1 := HYC.out W hW); go_simp; first | done | with_reducible rfl)
          (try go_simp)
          refine hK _ _ ?_
          clear hK K
          refine doneC (by kernel_rfl) ?_
          clear hC0 hC1
          go_wp2_with fail
          go_ret
          exact ⟨by rw [HGB.out, HM.out]; rfl, HE3.out⟩
      · have hk' : l.take k = l := List.take_of_length_le (by omega)
        have hk2 : m.take k = m := List.take_of_length_le (by have := HLM.out; omega)
        rw [hk', hk2] at hno
        have HN := hid (decide_eq_true hno)
        have HE := hid hE
        clear hno hk' hk2 hE h h'
        go_wp2_with fail
        go_ret
        exact ⟨by rw [HGB.out, HN.out]; rfl, HE.out⟩
  · have hlm' : ((l.length : Int) != (m.length : Int)) = true := by simp; omega
    have HN := hid (show decide (l.map (fun x => x.bs) = m.map (fun x => x.bs)) = false by
      refine decide_eq_false (fun e0 => hlm ?_)
      have := congrArg List.length e0
      simpa using this)
    clear hlm h h'
    go_enter Try.func33, Try.ntmps33
    go_wp2_with fail
    go_ret
    exact ⟨by rw [HGB.out, HN.out]; rfl, Ext.refl _⟩
set_option maxRecDepth 100000 in
set_option maxHeartbeats 1600000 in
theorem RefForm0_any (w : World) : Calls Try.prog 56 #[.slice none 0 0] w fun e w' => ∃ v, e = .returned v ∧ OwnB w' v (formB []) ∧ Below w.heap.size w w' := by
  go_enter Try.func56, Try.ntmps56
  go_wp2_with fail
  refine (RefPutSmall_any w 0 (by omega)).mono ?_
  rintro e w1 ⟨v1, rfl, ho1, hf1, hE1⟩
  have hE2 : Ext w1 (w1.alloc (.cells #[] 5)) := (Ext.refl w1).alloc _
  have hown0 : OwnB (w1.alloc (.cells #[] 5)) (.slice (some ⟨w1.heap.size, 0, none⟩) 0 0) [] :=
    Or.inr ⟨w1.heap.size, 0, #[], rfl, heap_alloc_new w1 _, Nat.le_refl _, by unfold maxLen; omega, Nat.le_refl _, rfl⟩
  obtain ⟨a1, g1, o1, c1, rfl, hc1, hr1, _⟩ := (ho1.below hE2.below).rd
  have HS1 := hid (Src.ofRd (cap := c1) hr1)
  have HOW := hid hown0
  have HO1 := hid ho1
  have HF1 := hid hf1
  have HE1 := hid hE1
  clear ho1 hf1 hE1 hown0 hr1 hE2
  go_wp2_with (at_builtin; go_must (refine wpList_append_B rfl _ _ rfl _ [] [UInt8.ofNat 0] rfl HOW.out _ rfl HS1.out (by simp) ?_))
  intro v2 w2 hown2 hgrow2 hat2
  have HB2 := hid (show Below w1.heap.size w1 w2 from ((Ext.refl w1).alloc _).below.grown hgrow2 (by simp) (fun g hg => by cases hg; exact Nat.le_refl _))
  have HF2 := hid (show ∀ g, v2.ownBlock = some g → w1.heap.size ≤ g from fun g hg => by
    rcases hat2 with h | h
    · rw [h] at hg; cases hg; exact Nat.le_refl _
    · rw [h] at hg; simp at hg; omega)
  have HO2 := hid hown2
  have HS2 := hid (show Src Try.prog 1 22 (.slice none 0 0) ([] : List UInt8).length (([] : List UInt8).map vB) w2 from Src.ofRd (a := none) (g := 0) (off := 0) (cap := 0) (l := []) ⟨fun h => absurd rfl h, fun h => absurd rfl h, RdAt.nil⟩)
  clear hown2 hgrow2 hat2
  go_wp2_with (at_builtin; go_must (refine wpList_append_B rfl _ _ rfl v2 ([] ++ [UInt8.ofNat 0]) [] rfl HO2.out _ rfl HS2.out (by simp) ?_))
  intro v3 w3 hown3 hgrow3 hat3
  have HB3 := hid (show Below w1.heap.size w1 w3 from HB2.out.grown hgrow3 HB2.out.size (fun g hg => HF2.out g hg))
  obtain ⟨a3, g3, o3, c3, rfl, hc3, hr3, _⟩ := hown3.rd
  have HSM := hid (RefSum_any w3 a3 g3 o3 c3 _ hr3 (by simp))
  have HOW1 := hid (HO1.out.below HB3.out)
  clear hown3 hgrow3 hat3 hr3
  have hlen1 : (([] : List UInt8) ++ [UInt8.ofNat 0] ++ []).length = 1 := rfl
  have HSM := hid HSM.out
  rw [sum_zero] at HSM
  obtain ⟨s, hs⟩ : ∃ s, s = crcI [0] := ⟨_, rfl⟩
  rw [← hs] at HSM
  have hcr := crcI_range [0]
  rw [← hs] at hcr
  have HSS := hid hs
  obtain ⟨hcr0, hcr1⟩ := hcr
  clear hs
  go_wp2_with fail
  refine HSM.out.mono ?_
  rintro e w4 ⟨rfl, rfl⟩
  have HV := hid (show [Value.int .u8 (s / 16777216), .int .u8 (s / 65536 % 256), .int .u8 (s / 256 % 256), .int .u8 (s % 256)] = (fourB s).map vB by
    simp only [fourB, vB, b8_val, List.map_cons, List.map_nil]
    congr 2
    omega)
  have HS4 := hid (show Src Try.prog 1 22 (.slice (some ⟨w4.heap.size, 0, none⟩) 4 4) (fourB s).length ((fourB s).map vB) (w4.alloc (.cells #[.int .u8 (s / 16777216), .int .u8 (s / 65536 % 256), .int .u8 (s / 256 % 256), .int .u8 (s % 256)] 5)) by
    have hob : OwnB (w4.alloc (.cells #[.int .u8 (s / 16777216), .int .u8 (s / 65536 % 256), .int .u8 (s / 256 % 256), .int .u8 (s % 256)] 5)) (.slice (some ⟨w4.heap.size, 0, none⟩) 4 4) (fourB s) := OwnB.of_block (l := fourB s) (by rw [← HV.out]; exact heap_alloc_new w4 _) (by unfold maxLen fourB; simp)
    obtain ⟨a, g, o, c, e, _, hr, _⟩ := hob.rd
    cases e
    exact Src.ofRd (cap := 4) hr)
  have HOWB := hid (HOW1.out.below ((Ext.refl w4).alloc (.cells #[.int .u8 (s / 16777216), .int .u8 (s / 65536 % 256), .int .u8 (s / 256 % 256), .int .u8 (s % 256)] 5)).below)
  go_wp2_with (at_builtin; go_must (refine wpList_append_B rfl _ _ rfl _ [UInt8.ofNat 0] (fourB s) rfl HOWB.out _ rfl HS4.out (by simp [fourB]) ?_))
  intro v5 w5 hown5 hgrow5 hat5
  have hb45 : Below w.heap.size w4 w5 := (((Ext.refl w4).alloc _).below.mono (by have := HB3.out.size; have := HE1.out.size; omega)).grown hgrow5 (by have := HB3.out.size; have := HE1.out.size; simp; omega) (fun g hg => HF1.out g hg)
  have HB5 := hid (show Below w.heap.size w w5 from (HE1.out.below.trans (HB3.out.mono HE1.out.size)).trans hb45)
  have HF5 := hid (show ∀ g, v5.ownBlock = some g → w.heap.size ≤ g from fun g hg => by
    rcases hat5 with h | h
    · rw [h] at hg; exact HF1.out g hg
    · rw [h] at hg; have := HB3.out.size; have := HE1.out.size; simp at hg; omega)
  have HO5 := hid hown5
  have HS5 := hid (show Src Try.prog 1 22 (.slice none 0 0) ([] : List UInt8).length (([] : List UInt8).map vB) w5 from Src.ofRd (a := none) (g := 0) (off := 0) (cap := 0) (l := []) ⟨fun h => absurd rfl h, fun h => absurd rfl h, RdAt.nil⟩)
  clear hown5 hgrow5 hat5 hb45
  go_wp2_with (at_builtin; go_must (refine wpList_append_B rfl _ _ rfl v5 _ [] rfl HO5.out _ rfl HS5.out (by simp [fourB]) ?_))
  intro v6 w6 hown6 hgrow6 hat6
  have HB6 := hid (show Below w.heap.size w w6 from HB5.out.grown hgrow6 HB5.out.size (fun g hg => HF5.out g hg))
  have HO6 := hid hown6
  clear hown6 hgrow6 hat6
  go_wp2
  go_ret
  refine ⟨_, rfl, ?_, HB6.out⟩
  have := HO6.out
  rw [HSS.out] at this
  simpa [formB] using this
end Go.Proofs.Ytopabknlgmihpaa
