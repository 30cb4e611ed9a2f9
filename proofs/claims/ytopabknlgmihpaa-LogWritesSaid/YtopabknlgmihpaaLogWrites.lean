/- LogWrites. -/
import Derived.Test.YtopabknlgmihpaaLogM
namespace Go.Proofs.Ytopabknlgmihpaa
open Go Go.RowKit Go.MapKept Go.ChangeMaps Go.Maps

set_option maxRecDepth 100000 in
set_option maxHeartbeats 3200000 in
theorem LogWrites_great (w : World) (aA : Option Addr) (gA oA cA : Nat) (a : List BS) (aB : Option Addr) (gB oB cB : Nat) (b : List BS) (x : Int) (hx0 : 0 ≤ x) (hx1 : x ≤ 255) (q : Int) (hA : RdS encBS 1 w aA gA oA a) (hB : RdS encBS 1 w aB gB oB b) (hAc : a.length ≤ cA) (hAm : cA ≤ maxLen) (hBc : b.length ≤ cB) (hBm : cB ≤ maxLen) (hAn : aA = none → cA = 0) (hBn : aB = none → cB = 0) (hAO : ∀ y ∈ a, OkBS w y) (hBO : ∀ y ∈ b, OkBS w y) (hg : greatB a = true ∨ greatB b = true) :
    Calls Try.prog 9 #[.slice aA a.length cA, .slice aB b.length cB, .int .u8 x, .int .i64 q] w fun e w' => e = .returned (.bool true) ∧ Below w.heap.size w w' := by
  have H1 := great_at w aA gA oA cA a hA hAc hAm
  have H2 := great_at w aB gB oB cB b hB hBc hBm
  have HA := hid (LogAwake_any w)
  clear hA hB hAO hBO hAn hBn
  cases h1 : greatB a with
  | true =>
    rw [h1] at H1
    have H1 := hid H1
    clear hg h1 H2
    go_enter Try.func9, Try.ntmps9
    go_wp2_with fail
    refine H1.out.mono ?_
    rintro e w ⟨rfl, rfl⟩
    go_wp2_with fail
    refine HA.out.mono ?_
    rintro e w1 ⟨rfl, hb⟩
    have HB := hid hb
    clear hb
    go_wp2
    go_ret
    exact ⟨rfl, HB.out⟩
  | false =>
    have h2 : greatB b = true := hg.resolve_left (by rw [h1]; simp)
    rw [h1] at H1
    rw [h2] at H2
    have H1 := hid H1
    have H2 := hid H2
    clear hg h1 h2
    go_enter Try.func9, Try.ntmps9
    go_wp2_with fail
    refine H1.out.mono ?_
    rintro e w ⟨rfl, rfl⟩
    go_wp2_with fail
    refine H2.out.mono ?_
    rintro e w ⟨rfl, rfl⟩
    go_wp2_with fail
    refine HA.out.mono ?_
    rintro e w1 ⟨rfl, hb⟩
    have HB := hid hb
    clear hb
    go_wp2
    go_ret
    exact ⟨rfl, HB.out⟩
set_option maxRecDepth 100000 in
set_option maxHeartbeats 3200000 in
theorem LogWrites_small (w : World) (aA : Option Addr) (gA oA cA : Nat) (a : List BS) (aB : Option Addr) (gB oB cB : Nat) (b : List BS) (x : Int) (hx0 : 0 ≤ x) (hx1 : x ≤ 255) (q : Int) (hA : RdS encBS 1 w aA gA oA a) (hB : RdS encBS 1 w aB gB oB b) (hAc : a.length ≤ cA) (hAm : cA ≤ maxLen) (hBc : b.length ≤ cB) (hBm : cB ≤ maxLen) (hAn : aA = none → cA = 0) (hBn : aB = none → cB = 0) (hAO : ∀ y ∈ a, OkBS w y) (hBO : ∀ y ∈ b, OkBS w y) (hga : greatB a = false) (hgb : greatB b = false) :
    Calls Try.prog 9 #[.slice aA a.length cA, .slice aB b.length cB, .int .u8 x, .int .i64 q] w fun e w' => e = .returned (.bool true) ∧ Below w.heap.size w w' := by
  have H1 := great_at w aA gA oA cA a hA hAc hAm
  have H2 := great_at w aB gB oB cB b hB hBc hBm
  rw [hga] at H1
  rw [hgb] at H2
  obtain ⟨hsa, hla⟩ := greatB_false hga
  obtain ⟨hsb, hlb⟩ := greatB_false hgb
  have HSA := hid hsa
  have HSB := hid hsb
  have HRA := hid hA
  have HRB := hid hB
  have HAO := hid hAO
  have HBO := hid hBO
  have HAN := hid hAn
  have HBN := hid hBn
  have HG1 := hid H1
  have HG2 := hid H2
  clear H1 H2
  have HN := hid (LD.new w)
  have hlA : (a.map (fun x => x.bs)).length = a.length := by simp
  have hlB : (b.map (fun x => x.bs)).length = b.length := by simp
  have HLA := hid hlA
  have HLB := hid hlB
  have hgeta : ∀ (k : Nat) (y : BS), a[k]? = some y → (a.map (fun x => x.bs))[k]? = some y.bs := fun k y h => by rw [List.getElem?_map, h]; rfl
  have hgetb : ∀ (k : Nat) (y : BS), b[k]? = some y → (b.map (fun x => x.bs))[k]? = some y.bs := fun k y h => by rw [List.getElem?_map, h]; rfl
  have HGA := hid hgeta
  have HGB := hid hgetb
  obtain ⟨A, hAe⟩ : ∃ A, A = a.map (fun x => x.bs) := ⟨_, rfl⟩
  obtain ⟨B, hBe⟩ : ∃ B, B = b.map (fun x => x.bs) := ⟨_, rfl⟩
  rw [← hAe] at HSA HLA HGA
  rw [← hBe] at HSB HLB HGB
  have HAE := hid hAe
  have HBE := hid hBe
  clear hga hgb hA hB hAO hBO hAn hBn hsa hsb hlA hlB hgeta hgetb hAe hBe
  go_enter Try.func9, Try.ntmps9
  go_wp2_with fail
  refine HG1.out.mono ?_
  rintro e w ⟨rfl, rfl⟩
  go_wp2_with fail
  refine HG2.out.mono ?_
  rintro e w ⟨rfl, rfl⟩
  clear HG1 HG2
  have hfa : (A.flatMap formB).length ≤ 2000 := by have := forms_le HSA.out; rw [HLA.out] at this; omega
  have HWN := hid (write_new hfa)
  have HSX := hid (fun y (hy : y ∈ a) => show y.bs.length ≤ 100 from HSA.out y.bs (by rw [HAE.out]; exact List.mem_map.2 ⟨y, hy, rfl⟩))
  have HSY := hid (fun y (hy : y ∈ b) => show y.bs.length ≤ 100 from HSB.out y.bs (by rw [HBE.out]; exact List.mem_map.2 ⟨y, hy, rfl⟩))
  clear hfa
  go_wp2_with fail
  refine HN.out.mono ?_
  rintro e w1 ⟨p, rfl, hD1⟩
  have hb1 := hD1.bel
  have hC := Write_any w w1 p _ hD1 aA gA oA cA a (HRA.out.below hb1) (fun y hy => (HAO.out y hy).below hb1) HSX.out hla
  rw [← HAE.out, HWN.out] at hC
  have HC := hid hC
  clear hC hb1 hD1 HN HWN
  go_wp2_with fail
  refine HC.out.mono ?_
  rintro e w2 ⟨rfl, hD2⟩
  have HD2 := hid hD2
  clear hD2 HC
  go_wp2_with fail
  refine (Write_none w2 _ _).mono ?_
  rintro e w2 ⟨rfl, rfl⟩
  have HU := hid (HD2.out.fuse (x % 6) (by omega))
  obtain ⟨d3, er, hre, hcase⟩ := write_anew HSA.out HSB.out (by rw [HLA.out]; exact hla) (by rw [HLB.out]; exact hlb) (f := x % 6) (by omega) q
  have HRE := hid hre
  have HCASE := hid hcase
  clear hre hcase
  go_wp2_with fail
  refine HU.out.mono ?_
  rintro e w3 ⟨rfl, hD3⟩
  have hb3 := hD3.bel
  have hC := Write_any w w3 p _ hD3 aB gB oB cB b (HRB.out.below hb3) (fun y hy => (HBO.out y hy).below hb3) HSY.out hlb
  rw [← HBE.out] at hC
  rw [HRE.out] at hC
  have HC := hid hC
  clear hC hb3 hD3 HU HD2 HRE
  go_wp2_with fail
  refine HC.out.mono ?_
  rintro e w4 ⟨rfl, hD4⟩
  have HBT := hid (hD4.boot q)
  clear hD4 HC
  go_wp2_with fail
  refine HBT.out.mono ?_
  rintro e w5 ⟨rfl, hD5⟩
  have HD5 := hid hD5
  clear hD5 HBT
  rcases HCASE.out with ⟨rfl, hco⟩ | ⟨rfl, hco⟩
  · have HO5 := hid (HD5.out.open hco)
    clear hco HCASE HD5
    go_wp2_with fail
    refine HO5.out.mono ?_
    rintro e w6 ⟨lg2, a6, g6, o6, c6, l, rfl, hr6, hc6, hok6, hm6, hb6⟩
    have hll : l.length = b.length := by
      have h1 := congrArg List.length hm6
      rw [List.length_map, HLB.out] at h1
      exact h1
    have hlx : ∀ y ∈ l, y.bs.length ≤ 1073741824 := fun y hy => by
      have h1 : y.bs ∈ B := by rw [← hm6]; exact List.mem_map.2 ⟨y, hy, rfl⟩
      have := HSB.out _ h1; omega
    have hS := SameAll_any w6 a6 g6 o6 c6 l aB gB oB cB b hr6 (HRB.out.below hb6) hok6 (fun y hy => (HBO.out y hy).below hb6) (by omega) (by omega) hlx (fun y hy => by have := HSY.out y hy; omega)
    have heq : l.map (fun x : BS => x.bs) = b.map (fun x : BS => x.bs) := by rw [hm6, HBE.out]
    rw [decide_eq_true heq] at hS
    have HS := hid hS
    have HB6 := hid hb6
    clear hS heq hll hlx hr6 hc6 hok6 hm6 hb6 HO5
    go_wp2_with fail
    refine HS.out.mono ?_
    rintro e w7 ⟨rfl, hE7⟩
    have HB7 := hid (below_trans' HB6.out hE7.below)
    clear hE7 HS
    go_wp2_with fail
    refine (LogAwake_any _).mono ?_
    rintro e w8 ⟨rfl, hb8⟩
    have HB8 := hid (below_trans' HB7.out hb8)
    clear hb8
    go_wp2
    go_ret
    exact ⟨rfl, HB8.out⟩
  · have HO5 := hid (HD5.out.open hco)
    clear hco HCASE HD5
    go_wp2_with fail
    refine HO5.out.mono ?_
    rintro e w6 ⟨lg2, a6, g6, o6, c6, l, rfl, hr6, hc6, hok6, hm6, hb6⟩
    have hll : l.length = a.length := by
      have h1 := congrArg List.length hm6
      rw [List.length_map, HLA.out] at h1
      exact h1
    have hlx : ∀ y ∈ l, y.bs.length ≤ 1073741824 := fun y hy => by
      have h1 : y.bs ∈ A := by rw [← hm6]; exact List.mem_map.2 ⟨y, hy, rfl⟩
      have := HSA.out _ h1; omega
    have hS := SameAll_any w6 a6 g6 o6 c6 l aB gB oB cB b hr6 (HRB.out.below hb6) hok6 (fun y hy => (HBO.out y hy).below hb6) (by omega) (by omega) hlx (fun y hy => by have := HSY.out y hy; omega)
    have hS2 := fun W (hW : Below w6.heap.size w6 W) => SameAll_any W a6 g6 o6 c6 l aA gA oA cA a (hr6.below hW) (HRA.out.below (below_trans' hb6 hW)) (fun y hy => (hok6 y hy).below hW) (fun y hy => (HAO.out y hy).below (below_trans' hb6 hW)) (by omega) (by omega) hlx (fun y hy => by have := HSX.out y hy; omega)
    have heq : l.map (fun x : BS => x.bs) = a.map (fun x : BS => x.bs) := by rw [hm6, HAE.out]
    rw [decide_eq_true heq] at hS2
    have HS2 := hid hS2
    have HB6 := hid hb6
    obtain ⟨same, hsame⟩ : ∃ same, same = decide (l.map (fun x : BS => x.bs) = b.map (fun x : BS => x.bs)) := ⟨_, rfl⟩
    rw [← hsame] at hS
    have HS := hid hS
    clear hS heq hll hlx hr6 hc6 hok6 hm6 hb6 HO5 hS2 hsame
    go_wp2_with fail
    refine HS.out.mono ?_
    rintro e w7 ⟨rfl, hE7⟩
    have HE7 := hid hE7.below
    clear hE7 HS
    cases same with
    | true =>
      go_wp2_with fail
      refine (LogAwake_any _).mono ?_
      rintro e w8 ⟨rfl, hb8⟩
      have HB8 := hid (below_trans' (below_trans' HB6.out HE7.out) hb8)
      clear hb8
      go_wp2
      go_ret
      exact ⟨rfl, HB8.out⟩
    | false =>
      go_wp2_with fail
      refine (HS2.out w7 HE7.out).mono ?_
      rintro e w8 ⟨rfl, hE8⟩
      have HB7 := hid (below_trans' (below_trans' HB6.out HE7.out) hE8.below)
      clear hE8 HS2
      go_wp2_with fail
      refine (LogAwake_any _).mono ?_
      rintro e w9 ⟨rfl, hb9⟩
      have HB9 := hid (below_trans' HB7.out hb9)
      clear hb9
      go_wp2
      go_ret
      exact ⟨rfl, HB9.out⟩
theorem LogWrites_any (w : World) (aA : Option Addr) (gA oA cA : Nat) (a : List BS) (aB : Option Addr) (gB oB cB : Nat) (b : List BS) (x : Int) (hx0 : 0 ≤ x) (hx1 : x ≤ 255) (q : Int) (hA : RdS encBS 1 w aA gA oA a) (hB : RdS encBS 1 w aB gB oB b) (hAc : a.length ≤ cA) (hAm : cA ≤ maxLen) (hBc : b.length ≤ cB) (hBm : cB ≤ maxLen) (hAn : aA = none → cA = 0) (hBn : aB = none → cB = 0) (hAO : ∀ y ∈ a, OkBS w y) (hBO : ∀ y ∈ b, OkBS w y) : Calls Try.prog 9 #[.slice aA a.length cA, .slice aB b.length cB, .int .u8 x, .int .i64 q] w fun e w' => e = .returned (.bool true) ∧ Below w.heap.size w w' := by
  cases h1 : greatB a with
  | true => exact LogWrites_great w aA gA oA cA a aB gB oB cB b x hx0 hx1 q hA hB hAc hAm hBc hBm hAn hBn hAO hBO (Or.inl h1)
  | false =>
    cases h2 : greatB b with
    | true => exact LogWrites_great w aA gA oA cA a aB gB oB cB b x hx0 hx1 q hA hB hAc hAm hBc hBm hAn hBn hAO hBO (Or.inr h2)
    | false => exact LogWrites_small w aA gA oA cA a aB gB oB cB b x hx0 hx1 q hA hB hAc hAm hBc hBm hAn hBn hAO hBO h1 h2
end Go.Proofs.Ytopabknlgmihpaa
