/- LogKeeps. -/
import Derived.Test.YtopabknlgmihpaaLogI
namespace Go.Proofs.Ytopabknlgmihpaa
open Go Go.RowKit Go.MapKept Go.ChangeMaps Go.Maps

set_option maxRecDepth 100000 in
set_option maxHeartbeats 3200000 in
theorem LogKeeps_great (w : World) (aA : Option Addr) (gA oA cA : Nat) (a : List BS) (aB : Option Addr) (gB oB cB : Nat) (b : List BS) (x : Int) (hx0 : 0 ≤ x) (hx1 : x ≤ 255) (q : Int) (hA : RdS encBS 1 w aA gA oA a) (hB : RdS encBS 1 w aB gB oB b) (hAc : a.length ≤ cA) (hAm : cA ≤ maxLen) (hBc : b.length ≤ cB) (hBm : cB ≤ maxLen) (hAn : aA = none → cA = 0) (hBn : aB = none → cB = 0) (hAO : ∀ y ∈ a, OkBS w y) (hBO : ∀ y ∈ b, OkBS w y) (hg : greatB a = true ∨ greatB b = true) :
    Calls Try.prog 8 #[.slice aA a.length cA, .slice aB b.length cB, .int .u8 x, .int .i64 q] w fun e w' => e = .returned (.bool true) ∧ Below w.heap.size w w' := by
  have H1 := great_at w aA gA oA cA a hA hAc hAm
  have H2 := great_at w aB gB oB cB b hB hBc hBm
  have HA := hid (LogAwake_any w)
  clear hA hB hAO hBO hAn hBn
  cases h1 : greatB a with
  | true =>
    rw [h1] at H1
    have H1 := hid H1
    clear hg h1 H2
    go_enter Try.func8, Try.ntmps8
    go_wp2_with fail
    refine H1.out.mono ?_
    rintro e w ⟨rfl, rfl⟩
    go_wp2_with fail
    refine HA.out.mono ?_
    rintro e w1 ⟨rfl, hb⟩
    have HB := hid hb
    clear hb
    go_wp2
    go_ret
    exact ⟨rfl, HB.out⟩
  | false =>
    have h2 : greatB b = true := hg.resolve_left (by rw [h1]; simp)
    rw [h1] at H1
    rw [h2] at H2
    have H1 := hid H1
    have H2 := hid H2
    clear hg h1 h2
    go_enter Try.func8, Try.ntmps8
    go_wp2_with fail
    refine H1.out.mono ?_
    rintro e w ⟨rfl, rfl⟩
    go_wp2_with fail
    refine H2.out.mono ?_
    rintro e w ⟨rfl, rfl⟩
    go_wp2_with fail
    refine HA.out.mono ?_
    rintro e w1 ⟨rfl, hb⟩
    have HB := hid hb
    clear hb
    go_wp2
    go_ret
    exact ⟨rfl, HB.out⟩
set_option maxRecDepth 100000 in
set_option maxHeartbeats 3200000 in
theorem LogKeeps_small (w : World) (aA : Option Addr) (gA oA cA : Nat) (a : List BS) (aB : Option Addr) (gB oB cB : Nat) (b : List BS) (x : Int) (hx0 : 0 ≤ x) (hx1 : x ≤ 255) (q : Int) (hA : RdS encBS 1 w aA gA oA a) (hB : RdS encBS 1 w aB gB oB b) (hAc : a.length ≤ cA) (hAm : cA ≤ maxLen) (hBc : b.length ≤ cB) (hBm : cB ≤ maxLen) (hAn : aA = none → cA = 0) (hBn : aB = none → cB = 0) (hAO : ∀ y ∈ a, OkBS w y) (hBO : ∀ y ∈ b, OkBS w y) (hga : greatB a = false) (hgb : greatB b = false) :
    Calls Try.prog 8 #[.slice aA a.length cA, .slice aB b.length cB, .int .u8 x, .int .i64 q] w fun e w' => e = .returned (.bool true) ∧ Below w.heap.size w w' := by
  have H1 := great_at w aA gA oA cA a hA hAc hAm
  have H2 := great_at w aB gB oB cB b hB hBc hBm
  rw [hga] at H1
  rw [hgb] at H2
  obtain ⟨hsa, hla⟩ := greatB_false hga
  obtain ⟨hsb, hlb⟩ := greatB_false hgb
  have HSA := hid hsa
  have HSB := hid hsb
  have HRA := hid hA
  have HRB := hid hB
  have HAO := hid hAO
  have HBO := hid hBO
  have HAN := hid hAn
  have HBN := hid hBn
  have HG1 := hid H1
  have HG2 := hid H2
  clear H1 H2
  have HN := hid (LD.new w)
  have hlA : (a.map (fun x => x.bs)).length = a.length := by simp
  have hlB : (b.map (fun x => x.bs)).length = b.length := by simp
  have HLA := hid hlA
  have HLB := hid hlB
  have hgeta : ∀ (k : Nat) (y : BS), a[k]? = some y → (a.map (fun x => x.bs))[k]? = some y.bs := fun k y h => by rw [List.getElem?_map, h]; rfl
  have hgetb : ∀ (k : Nat) (y : BS), b[k]? = some y → (b.map (fun x => x.bs))[k]? = some y.bs := fun k y h => by rw [List.getElem?_map, h]; rfl
  have HGA := hid hgeta
  have HGB := hid hgetb
  obtain ⟨A, hAe⟩ : ∃ A, A = a.map (fun x => x.bs) := ⟨_, rfl⟩
  obtain ⟨B, hBe⟩ : ∃ B, B = b.map (fun x => x.bs) := ⟨_, rfl⟩
  rw [← hAe] at HSA HLA HGA
  rw [← hBe] at HSB HLB HGB
  have HAE := hid hAe
  have HBE := hid hBe
  clear hga hgb hA hB hAO hBO hAn hBn hsa hsb hlA hlB hgeta hgetb hAe hBe
  go_enter Try.func8, Try.ntmps8
  go_wp2_with fail
  refine HG1.out.mono ?_
  rintro e w ⟨rfl, rfl⟩
  go_wp2_with fail
  refine HG2.out.mono ?_
  rintro e w ⟨rfl, rfl⟩
  clear HG1 HG2
  go_wp2_with fail
  refine HN.out.mono ?_
  rintro e w1 ⟨p, rfl, hD1⟩
  have HD1 := hid hD1
  clear hD1 HN
  go_wp2_with fail
  refine HD1.out.first.mono ?_
  rintro e w2 ⟨lg, v2, rfl, hW2⟩
  have HW2 := hid hW2
  clear hW2 HD1
  go_wp2_with fail
  go_loopw [13] (fun s13 wr => ∃ k : Nat, k ≤ a.length ∧ s13 = .int .i64 k ∧ LW w wr lg p ⟨10000, -1, false, flL (A.take k) 0⟩) (fun s13 _ => a.length - (intOf s13).toNat)
  case atStart => exact ⟨0, Nat.zero_le _, rfl, HW2.out⟩
  case round =>
    obtain ⟨k, hk, rfl, hW⟩ := hrel
    by_cases hlt : k < a.length
    · have hx := indexBS HRA.out hlt cA
      have hget : a[k]? = some a[k] := by simp [hlt]
      have c0 := RdBS (HRA.out.below hW.bel) hget
      have hok := HAO.out a[k] (List.getElem_mem hlt)
      have hgA := HGA.out k a[k] hget
      generalize a[k] = y at *
      have hyl : y.bs.length ≤ 100 := HSA.out y.bs (List.mem_of_getElem? hgA)
      have ht : A.take k ++ [y.bs] = A.take (k + 1) := by rw [List.take_add_one, hgA]; simp
      have hadd := add_live (l := A.take k) (x := y.bs) (k := 0) (f := -1) (fun _ => rfl) (by omega) (fun z hz => HSA.out z (List.mem_of_mem_take hz)) hyl (by rw [List.length_take]; omega)
      rw [ht] at hadd
      have HC := hid (hW.add (hok.below hW.bel) (by omega) hadd)
      clear hW hget hok hgA hyl ht hadd HW2
      go_wp2_with fail
      refine HC.out.mono ?_
      rintro e w3 ⟨rfl, hW3⟩
      have HW3 := hid hW3
      clear hW3 HC c0 hx
      go_wp2_with fail
      go_roundw
      case rel => exact ⟨k + 1, by omega, by go_num, HW3.out⟩
      case measure => simp [intOf]; omega
    · have hkl : k = A.length := by have := HLA.out; omega
      have hW' : LW w wr lg p ⟨10000, -1, false, flL A 0⟩ := by
        rw [hkl, List.take_length] at hW
        exact hW
      obtain ⟨ec, hfl, hec⟩ := flush_live (l := A) (k := 0) (f := -1) (by omega)
      have hF := hW'.flush hfl
      have he0 : (if ec = 8 then 0 else ec) = 0 := by rcases hec with rfl | rfl <;> rfl
      rw [he0] at hF
      have HF := hid hF
      clear hkl hW' hW hfl hec hF he0 HW2 ec
      go_wp2_with fail
      refine HF.out.mono ?_
      rintro e w3 ⟨rfl, hW3⟩
      have hU := hW3.fuse (x % 12) (by omega)
      have HU := hid hU
      clear hW3 HF hU
      go_wp2_with fail
      refine HU.out.mono ?_
      rintro e w4 ⟨rfl, hW4⟩
      have HE0 := hid (show ErB A B 0 ⟨10000, x % 12, false, flL A (A.flatMap formB).length⟩ from ⟨0, x % 12, false, by simp, Nat.le_refl _, Nat.zero_le _, by omega, fun _ _ => rfl⟩)
      have HW4 := hid hW4
      clear hW4 HU
      go_wp2_with fail
      go_loopw [14] (fun s14 wz => ∃ (j : Nat) (d : AD), j ≤ b.length ∧ s14 = .int .i64 j ∧ LW w wz lg p d ∧ ErB A B j d) (fun s14 _ => b.length - (intOf s14).toNat)
      case atStart => exact ⟨0, _, Nat.zero_le _, rfl, HW4.out, HE0.out⟩
      case round =>
        obtain ⟨j, d, hj, rfl, hW, hE⟩ := hrel
        by_cases hlt2 : j < b.length
        · have hx := indexBS HRB.out hlt2 cB
          have hget : b[j]? = some b[j] := by simp [hlt2]
          have c0 := RdBS (HRB.out.below hW.bel) hget
          have hok := HBO.out b[j] (List.getElem_mem hlt2)
          have hgB := HGB.out j b[j] hget
          generalize b[j] = y at *
          have hyl : y.bs.length ≤ 100 := HSB.out y.bs (List.mem_of_getElem? hgB)
          have hst := hE.step hgB HSA.out HSB.out (by rw [HLA.out]; exact hla) (by rw [HLB.out]; exact hlb)
          have HST := hid hst
          have HC := hid (hW.add (hok.below hW.bel) (by omega) (show deedA (appendA nL (formB y.bs)) d = ((deedA (appendA nL (formB y.bs)) d).1, (deedA (appendA nL (formB y.bs)) d).2) from rfl))
          clear hW hE hget hok hgB hyl hst HW4 HE0
          go_wp2_with fail
          refine HC.out.mono ?_
          rintro e w5 ⟨rfl, hW5⟩
          have HW5 := hid hW5
          clear hW5 HC c0 hx
          go_wp2_with fail
          go_roundw
          case rel => exact ⟨j + 1, _, by omega, by go_num, HW5.out, HST.out⟩
          case measure => simp [intOf]; omega
        · have hbt := hE.boot q HSA.out HSB.out (by rw [HLA.out]; exact hla) (by rw [HLB.out]; exact hlb)
          obtain ⟨m, hm, hco⟩ := hbt
          have HCO := hid hco
          have HBT := hid (hW.ld.boot q)
          have hmb : m ≤ b.length := by rw [← HLB.out]; exact hm
          clear hW hE hco HW4 HE0 hm
          go_wp2_with fail
          refine HBT.out.mono ?_
          rintro e w5 ⟨rfl, hD5⟩
          have HO5 := hid (hD5.open HCO.out)
          clear hD5 HBT HCO
          go_wp2_with fail
          refine HO5.out.mono ?_
          rintro e w6 ⟨lg2, a6, g6, o6, c6, l, rfl, hr6, hc6, hok6, hm6, hb6⟩
          have hll : l.length = a.length + m := by
            have h1 := congrArg List.length hm6
            rw [List.length_map, List.length_append, List.length_take, HLA.out, HLB.out] at h1
            omega
          obtain ⟨hsl, hrt⟩ := rd_takeBS (HRB.out.below hb6) hBc hmb
          have hwr : IntKind.i64.wrap ((l.length : Int) - (a.length : Int)) = (m : Int) := by
            rw [IntWalk.i64_in _ (by omega)]
            omega
          obtain ⟨bt, hbt⟩ : ∃ bt, bt = b.take m := ⟨_, rfl⟩
          have hbl : bt.length = m := by rw [hbt, List.length_take]; omega
          have hbm : bt.map (fun x => x.bs) = B.take m := by rw [hbt, HBE.out, List.map_take]
          have hbo : ∀ y ∈ bt, y ∈ b := fun y hy => by rw [hbt] at hy; exact List.mem_of_mem_take hy
          have hbl10 : bt.length ≤ 10 := by omega
          rw [← hbt] at hrt
          rw [← hbl] at hsl hwr
          have HBM := hid hbm
          have HBO2 := hid hbo
          clear hbt hbl hbm hbo
          have hE7 : Ext w6 w6.drew := (Ext.refl w6).drew
          have hE8 : Ext w6 (w6.drew.alloc (.cells #[] 22)) := hE7.alloc _
          have hown8 : Owns w6.heap.size 22 encBS 1 (w6.drew.alloc (.cells #[] 22)) (.slice (some ⟨w6.heap.size, 0, none⟩) 0 0) [] := World.ownsRow_lit w6.drew #[] 0 (Nat.le_refl _) (Nat.zero_le _) rfl
          have HOWN := hid hown8
          have HR6 := hid hr6
          have HRT := hid hrt
          have HOK := hid hok6
          have HM := hid hm6
          have HB6 := hid hb6
          have HLL := hid hll
          have hlt3 : ¬ (l.length : Int) < (a.length : Int) := by omega
          have hgt3 : ¬ (a.length : Int) + (b.length : Int) < (l.length : Int) := by omega
          clear hown8 hr6 hrt hok6 hm6 HO5 hll
          go_wp2_with fail
          refine wp_region_C (fun W => Below w6.heap.size w6 W) (by kernel_rfl) ?_
          have hC0 : (fun W => Below w6.heap.size w6 W) w6.drew := hE7.below
          have hC1 : (fun W => Below w6.heap.size w6 W) (w6.drew.alloc (.cells #[] 22)) := hE8.below
          refine takeC (i := 0) (v := ?_) rfl (by kernel_rfl) (by kernel_rfl) (by kernel_rfl) (fun _ _ _ h => h) (by assumption) (Or.inl ⟨?_, ?_⟩) (fun K hK => ?_)
          rotate_left
          · rfl
          · (intro W hW; (skip); go_simp; first | done | with_reducible rfl)
          (try go_simp)
          refine hK _ _ ?_
          clear hK K
          refine takeC (i := 2) (v := ?_) rfl (by kernel_rfl) (by kernel_rfl) (by kernel_rfl) (fun _ _ _ h => h) (by assumption) (Or.inl ⟨?_, ?_⟩) (fun K hK => ?_)
          rotate_left
          · rfl
          · (intro W hW; (skip); go_simp; first | done | with_reducible rfl)
          (try go_simp)
          refine hK _ _ ?_
          clear hK K
          refine takeC (i := 4) (v := ?_) rfl (by kernel_rfl) (by kernel_rfl) (by kernel_rfl) (fun _ _ _ h => h) (by assumption) (Or.inl ⟨?_, ?_⟩) (fun K hK => ?_)
          rotate_left
          · rfl
          · (intro W hW; (skip); go_simp; first | done | with_reducible rfl)
          (try go_simp)
          refine hK _ _ ?_
          clear hK K
          refine takeC (i := 5) (v := ?_) rfl (by kernel_rfl) (by kernel_rfl) (by kernel_rfl) (fun _ _ _ h => h) (by assumption) (Or.inl ⟨?_, ?_⟩) (fun K hK => ?_)
          rotate_left
          · rfl
          · (intro W hW; (skip); go_simp; first | done | with_reducible rfl)
          (try go_simp)
          refine hK _ _ ?_
          clear hK K
          refine takeC (i := 6) (v := ?_) rfl (by kernel_rfl) (by kernel_rfl) (by kernel_rfl) (fun _ _ _ h => h) (by assumption) (Or.inl ⟨?_, ?_⟩) (fun K hK => ?_)
          rotate_left
          · rfl
          · (intro W hW; (skip); go_simp; first | done | with_reducible rfl)
          (try go_simp)
          refine hK _ _ ?_
          clear hK K
          refine takeC (i := 7) (v := ?_) rfl (by kernel_rfl) (by kernel_rfl) (by kernel_rfl) (fun _ _ _ h => h) (by assumption) (Or.inl ⟨?_, ?_⟩) (fun K hK => ?_)
          rotate_left
          · rfl
          · (intro W hW; (skip); go_simp; first | done | with_reducible rfl)
          (try go_simp)
          refine hK _ _ ?_
          clear hK K
          refine takeC (i := 8) (v := ?_) rfl (by kernel_rfl) (by kernel_rfl) (by kernel_rfl) (fun _ _ _ h => h) (by assumption) (Or.inl ⟨?_, ?_⟩) (fun K hK => ?_)
          rotate_left
          · rfl
          · (intro W hW; (skip); go_simp; first | done | with_reducible rfl)
          (try go_simp)
          refine hK _ _ ?_
          clear hK K
          refine takeC (i := 9) (v := ?_) rfl (by kernel_rfl) (by kernel_rfl) (by kernel_rfl) (fun _ _ _ h => h) (by assumption) (Or.inl ⟨?_, ?_⟩) (fun K hK => ?_)
          rotate_left
          · rfl
          · (intro W hW; (skip); go_simp; first | done | with_reducible rfl)
          (try go_simp)
          refine hK _ _ ?_
          clear hK K
          refine takeC (i := 10) (v := ?_) rfl (by kernel_rfl) (by kernel_rfl) (by kernel_rfl) (fun _ _ _ h => h) (by assumption) (Or.inl ⟨?_, ?_⟩) (fun K hK => ?_)
          rotate_left
          · rfl
          · (intro W hW; (skip); go_simp; first | done | with_reducible rfl)
          (try go_simp)
          refine hK _ _ ?_
          clear hK K
          refine callC (k := 1) (by kernel_rfl) rfl ?_ (fun K hK => ?_)
          · rfl
          go_simp
          refine hK _ _ (by assumption) ?_
          clear hK K
          refine callC (k := 3) (by kernel_rfl) rfl ?_ (fun K hK => ?_)
          · rfl
          refine wp_append_E elemBS _ _ rfl w6.heap.size _ [] rfl HOWN.out aA gA oA cA a rfl (HRA.out.below (below_trans' hb6 hC1)) HAN.out (by simp only [List.length_nil]; omega) (Below.size hC1) ?_
          intro v9 w9 hown9 hg9 hat9
          have hC2 : (fun W => Below w6.heap.size w6 W) w9 := Below.grown hC1 hg9 (Below.size hC1) (fun g hg => by cases hg; exact Nat.le_refl _)
          have HOWN9 := hid hown9
          clear hown9 hg9 hat9 hC0 hC1 HOWN
          refine hK _ _ hC2 ?_
          clear hK K
          refine callC (k := 11) (by kernel_rfl) rfl ?_ (fun K hK => ?_)
          · rfl
          refine wp_append_E elemBS _ _ rfl w6.heap.size _ ([] ++ a) rfl HOWN9.out aB gB oB cB bt rfl (HRT.out.below hC2) HBN.out (by simp only [List.nil_append]; omega) (Below.size hC2) ?_
          intro v10 w10 hown10 hg10 hat10
          have hC3 : (fun W => Below w6.heap.size w6 W) w10 := Below.grown hC2 hg10 (Below.size hC2) (fun g hg => (HOWN9.out.lt g hg).1)
          obtain ⟨a10, g10, o10, c10, hv10, hc10, hr10, _⟩ := hown10.rd encBS_len
          have hS := SameAll_any w10 a6 g6 o6 c6 l a10 g10 o10 c10 (([] ++ a) ++ bt) (HR6.out.below hC3) hr10 (fun y hy => (HOK.out y hy).below hC3) (fun y hy => by
            rcases List.mem_append.1 hy with hy | hy
            · exact (HAO.out y hy).below (below_trans' hb6 hC3)
            · exact (HBO.out y (HBO2.out y hy)).below (below_trans' hb6 hC3)) (by rw [HLL.out]; omega) (by simp only [List.nil_append, List.length_append]; omega) (fun y hy => by
            have h1 : y.bs ∈ A ++ B.take m := by rw [← HM.out]; exact List.mem_map.2 ⟨y, hy, rfl⟩
            rcases List.mem_append.1 h1 with h1 | h1
            · have := HSA.out _ h1; omega
            · have := HSB.out _ (List.mem_of_mem_take h1); omega) (fun y hy => by
            rcases List.mem_append.1 hy with hy | hy
            · have h1 : y.bs ∈ A := by rw [HAE.out]; exact List.mem_map.2 ⟨y, hy, rfl⟩
              have := HSA.out _ h1; omega
            · have h1 : y.bs ∈ B := by rw [HBE.out]; exact List.mem_map.2 ⟨y, HBO2.out y hy, rfl⟩
              have := HSB.out _ h1; omega)
          have heq : l.map (fun x => x.bs) = (([] ++ a) ++ bt).map (fun x : BS => x.bs) := by rw [HM.out, List.nil_append, List.map_append, HBM.out, HAE.out]
          rw [decide_eq_true heq, ← hv10] at hS
          have HS := hid hS
          clear hown10 hg10 hat10 hv10 hc10 hr10 hS hC2 HOWN9 heq
          refine hK _ _ hC3 ?_
          clear hK K
          refine callC (k := 12) (by kernel_rfl) rfl ?_ (fun K hK => ?_)
          · rfl
          go_simp
          refine HS.out.mono ?_
          rintro e w11 ⟨rfl, hE11⟩
          have hC4 : (fun W => Below w6.heap.size w6 W) w11 := Below.trans hC3 (hE11.below.mono (Below.size hC3))
          clear hE11 hC3 HS
          go_wp2
          refine hK _ _ hC4 ?_
          clear hK K
          refine takeC (i := 13) (v := ?_) rfl (by kernel_rfl) (by kernel_rfl) (by kernel_rfl) (fun _ _ _ h => h) (by assumption) (Or.inl ⟨?_, ?_⟩) (fun K hK => ?_)
          rotate_left
          · rfl
          · (intro W hW; (skip); go_simp; first | done | with_reducible rfl)
          (try go_simp)
          refine hK _ _ ?_
          clear hK K
          refine callC (k := 14) (by kernel_rfl) rfl ?_ (fun K hK => ?_)
          · rfl
          go_simp
          refine (LogAwake_any _).mono ?_
          rintro e w12 ⟨rfl, hb12⟩
          have hC5 : (fun W => Below w6.heap.size w6 W) w12 := Below.trans hC4 (hb12.mono (Below.size hC4))
          clear hb12 hC4
          go_wp2
          refine hK _ _ hC5 ?_
          clear hK K
          refine takeC (i := 15) (v := ?_) rfl (by kernel_rfl) (by kernel_rfl) (by kernel_rfl) (fun _ _ _ h => h) (by assumption) (Or.inl ⟨?_, ?_⟩) (fun K hK => ?_)
          rotate_left
          · rfl
          · (intro W hW; (skip); go_simp; first | done | with_reducible rfl)
          (try go_simp)
          refine hK _ _ ?_
          clear hK K
          refine takeC (i := 16) (v := ?_) rfl (by kernel_rfl) (by kernel_rfl) (by kernel_rfl) (fun _ _ _ h => h) (by assumption) (Or.inl ⟨?_, ?_⟩) (fun K hK => ?_)
          rotate_left
          · rfl
          · (intro W hW; (skip); go_simp; first | done | with_reducible rfl)
          (try go_simp)
          refine hK _ _ ?_
          clear hK K
          refine doneC (by kernel_rfl) ?_
          have HB12 := hid (below_trans' HB6.out hC5)
          clear hC5
          go_wp2
          go_ret
          exact ⟨rfl, HB12.out⟩
theorem LogKeeps_any (w : World) (aA : Option Addr) (gA oA cA : Nat) (a : List BS) (aB : Option Addr) (gB oB cB : Nat) (b : List BS) (x : Int) (hx0 : 0 ≤ x) (hx1 : x ≤ 255) (q : Int) (hA : RdS encBS 1 w aA gA oA a) (hB : RdS encBS 1 w aB gB oB b) (hAc : a.length ≤ cA) (hAm : cA ≤ maxLen) (hBc : b.length ≤ cB) (hBm : cB ≤ maxLen) (hAn : aA = none → cA = 0) (hBn : aB = none → cB = 0) (hAO : ∀ y ∈ a, OkBS w y) (hBO : ∀ y ∈ b, OkBS w y) : Calls Try.prog 8 #[.slice aA a.length cA, .slice aB b.length cB, .int .u8 x, .int .i64 q] w fun e w' => e = .returned (.bool true) ∧ Below w.heap.size w w' := by
  cases h1 : greatB a with
  | true => exact LogKeeps_great w aA gA oA cA a aB gB oB cB b x hx0 hx1 q hA hB hAc hAm hBc hBm hAn hBn hAO hBO (Or.inl h1)
  | false =>
    cases h2 : greatB b with
    | true => exact LogKeeps_great w aA gA oA cA a aB gB oB cB b x hx0 hx1 q hA hB hAc hAm hBc hBm hAn hBn hAO hBO (Or.inr h2)
    | false => exact LogKeeps_small w aA gA oA cA a aB gB oB cB b x hx0 hx1 q hA hB hAc hAm hBc hBm hAn hBn hAO hBO h1 h2
end Go.Proofs.Ytopabknlgmihpaa
