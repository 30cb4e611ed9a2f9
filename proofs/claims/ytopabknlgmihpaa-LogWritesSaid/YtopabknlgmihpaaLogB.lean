/- log.Form; the document's Put of small numbers, Sum, Form, Great, SameAll. -/
import Derived.Test.YtopabknlgmihpaaLogA
namespace Go.Proofs.Ytopabknlgmihpaa
open Go Go.RowKit Go.MapKept Go.ChangeMaps Go.Maps

theorem RdBS.new (w : World) (l : List BS) : RdS encBS 1 (w.alloc (.cells (l.flatMap encBS).toArray 22)) (some ⟨w.heap.size, 0, none⟩) w.heap.size 0 l := by
  refine ⟨fun _ => rfl, fun _ => by simp, fun i x hx j y hy => ?_⟩
  have hj : j = 0 := by have := (List.getElem?_eq_some_iff.1 hy).1; simp [encBS] at this; exact this
  subst hj
  have h1 := heap_alloc_new w (.cells (l.flatMap encBS).toArray 22)
  have h2 : l.flatMap encBS = l.map (fun x => Value.slice x.a x.bs.length x.c) := by
    clear hx h1
    induction l with
    | nil => rfl
    | cons a r ih => rw [List.flatMap_cons, ih]; rfl
  have h3 : (l.flatMap encBS)[i]? = some y := by
    rw [h2, List.getElem?_map, hx]
    simp only [encBS, List.getElem?_cons_zero, Option.some.injEq] at hy
    rw [← hy]
    rfl
  have he : 0 + i * 1 + 0 = i := by omega
  rw [he]
  unfold World.cell?
  simp only at h1 ⊢
  rw [h1]
  simpa using h3
/-- A record's form. -/
def formB (p : List UInt8) : List UInt8 := [UInt8.ofNat p.length] ++ (fourB (crcI ([UInt8.ofNat p.length] ++ p)) ++ p)
theorem formB_len (p : List UInt8) : (formB p).length = p.length + 5 := by
  unfold formB fourB
  simp
theorem okbs_own {w : World} {a : Option Addr} {g o c : Nat} {bs : List UInt8} (hr : RdS encB 1 w a g o bs) (hc : bs.length ≤ c) (hm : c ≤ maxLen) : OkBS w ⟨a, g, o, c, bs⟩ := ⟨hr, hc, hm⟩
theorem OwnB.bs {w : World} {v : Value} {bs : List UInt8} (h : OwnB w v bs) : ∃ x : BS, v = .slice x.a x.bs.length x.c ∧ x.bs = bs ∧ OkBS w x ∧ (bs ≠ [] → v.ownBlock = some x.g) := by
  obtain ⟨a, g, o, c, rfl, hc, hr, _⟩ := h.rd
  refine ⟨⟨a, g, o, c, bs⟩, rfl, rfl, ⟨hr, hc, ?_⟩, fun hn => by rw [hr.some hn]; rfl⟩
  rcases h with ⟨e, _⟩ | ⟨g', cap, cur, e, _, _, hm, _⟩
  · simp only [Value.slice.injEq] at e; rw [e.2.2]; exact Nat.zero_le _
  · simp only [Value.slice.injEq] at e; rw [e.2.2]; exact hm
set_option maxRecDepth 100000 in
set_option maxHeartbeats 1600000 in
theorem Form_any (w : World) (x : BS) (hO : OkBS w x) (hl : x.bs.length ≤ 200) : Calls Try.prog 54 #[.slice x.a x.bs.length x.c] w fun e w' => ∃ v, e = .returned (.tuple #[v, .int .i64 0]) ∧ OwnB w' v (formB x.bs) ∧ (∀ g, v.ownBlock = some g → w.heap.size ≤ g) ∧ Below w.heap.size w w' := by
  have HO := hid hO
  have hnl : ¬ (1048576 : Int) < (x.bs.length : Int) := by omega
  clear hO
  go_enter Try.func54, Try.ntmps54
  go_wp2_with fail
  refine (PutSmall_any w x.bs.length (by omega)).mono ?_
  rintro e w1 ⟨v1, rfl, ho1, hf1, hb1⟩
  obtain ⟨y, rfl, hy, hoky, hyg⟩ := ho1.bs
  have HY := hid hy
  have HOY := hid hoky
  have HB1 := hid hb1
  have hl2 : [y, x].flatMap (fun x => x.bs) = [UInt8.ofNat x.bs.length] ++ x.bs := by simp [hy]
  have hE2 : Ext w1 (w1.alloc (.cells ([y, x].flatMap encBS).toArray 22)) := (Ext.refl w1).alloc _
  have HE2 := hid hE2
  have HSUM := hid (CrcSum_any _ (some ⟨w1.heap.size, 0, none⟩) w1.heap.size 0 2 [y, x] (RdBS.new w1 [y, x]) (fun z hz => by
    rcases List.mem_cons.1 hz with rfl | hz
    · exact hoky.below hE2.below
    · rw [List.mem_singleton] at hz; subst hz; exact (HO.out.below hb1).below hE2.below) (by simp) (fun z hz => by
    rcases List.mem_cons.1 hz with rfl | hz
    · rw [hy]; simp
    · rw [List.mem_singleton] at hz; subst hz; omega))
  rw [hl2] at HSUM
  clear ho1 hf1 hb1 hy hoky hl2 hE2 hyg
  go_wp2_with fail
  refine HSUM.out.mono ?_
  rintro e w2 ⟨rfl, hE3⟩
  have hcr := crcI_range ([UInt8.ofNat x.bs.length] ++ x.bs)
  obtain ⟨s, hs⟩ : ∃ s, s = crcI ([UInt8.ofNat x.bs.length] ++ x.bs) := ⟨_, rfl⟩
  rw [← hs] at hcr
  rw [← hs]
  have HS := hid hs
  have HE13 := hid (HE2.out.trans hE3)
  clear hE3 hs
  go_wp2_with fail
  refine (four_any w2 s hcr.1 hcr.2).mono ?_
  rintro e w3 ⟨v3, rfl, ho3, hf3, hE4⟩
  obtain ⟨z, rfl, hz, hokz, hzg⟩ := ho3.bs
  have HZ := hid hz
  have hb34 : Below w.heap.size w w3 := below_trans' HB1.out ((HE13.out.trans hE4).below)
  have HB34 := hid hb34
  have hl3 : [y, z, x].flatMap (fun x => x.bs) = formB x.bs := by
    unfold formB
    rw [← HS.out]
    simp [HY.out, hz]
  have hs3 : sumBS [y, z, x] = x.bs.length + 5 := by rw [← sumBS_flat, hl3, formB_len]
  have hE5 : Ext w3 (w3.alloc (.cells ([y, z, x].flatMap encBS).toArray 22)) := (Ext.refl w3).alloc _
  have HE5 := hid hE5
  have HCC := hid (ConcatB_any _ (some ⟨w3.heap.size, 0, none⟩) w3.heap.size 0 3 [y, z, x] (RdBS.new w3 [y, z, x]) (fun u hu => by
    rcases List.mem_cons.1 hu with rfl | hu
    · exact (HOY.out.below ((HE13.out.trans hE4).below)).below hE5.below
    rcases List.mem_cons.1 hu with rfl | hu
    · exact hokz.below hE5.below
    · rw [List.mem_singleton] at hu; subst hu; exact (HO.out.below hb34).below hE5.below) (by simp) (by rw [hs3]; omega) (by rw [hs3]; omega))
  rw [hl3] at HCC
  clear ho3 hf3 hz hokz hl3 hs3 hE5 hzg hE4 hb34
  go_wp2_with fail
  refine HCC.out.mono ?_
  rintro e w4 ⟨v4, rfl, ho4, hf4, hb4⟩
  have HO4 := hid ho4
  have HF4 := hid (fun g (hg : v4.ownBlock = some g) => show w.heap.size ≤ g from Nat.le_trans (Nat.le_trans HB34.out.size HE5.out.size) (hf4 g hg))
  have HB4 := hid (below_trans' (below_trans' HB34.out HE5.out.below) hb4)
  clear ho4 hf4 hb4
  go_wp2
  go_ret2
  exact ⟨_, rfl, HO4.out, HF4.out, HB4.out⟩
set_option maxRecDepth 100000 in
set_option maxHeartbeats 1600000 in
theorem RefPutSmall_any (w : World) (n : Nat) (hn : n < 248) : Calls Try.prog 75 #[.int .u64 n] w fun e w' => ∃ v, e = .returned v ∧ OwnB w' v [UInt8.ofNat n] ∧ (∀ g, v.ownBlock = some g → w.heap.size ≤ g) ∧ Ext w w' := by
  have HV := hid (show [Value.int .u8 n] = [UInt8.ofNat n].map vB by
    show [Value.int .u8 n] = [vB (UInt8.ofNat n)]
    unfold vB
    rw [ofNat_val (show n < 256 by omega)])
  go_enter Try.func75, Try.ntmps75
  go_wp2
  go_ret
  refine ⟨.slice (some ⟨w.heap.size, 0, none⟩) 1 1, rfl, OwnB.of_block (l := [UInt8.ofNat n]) ?_ (by unfold maxLen; simp), fun g hg => (by cases hg; exact Nat.le_refl _), (Ext.refl w).alloc _⟩
  rw [← HV.out]
  exact heap_alloc_new w _
set_option maxRecDepth 100000 in
set_option maxHeartbeats 1600000 in
theorem Great_any (w : World) (a : Option Addr) (g off cap : Nat) (l : List BS) (most long : Nat) (h : RdS encBS 1 w a g off l) (hl : l.length ≤ cap) (hcm : cap ≤ maxLen) (hm : most ≤ 1000000) : Calls Try.prog 28 #[.slice a l.length cap, .int .i64 most, .int .i64 long] w fun e w' => e = .returned (.bool ((l.take most).any (fun x => decide (long < x.bs.length)) || decide (most < l.length))) ∧ w' = w := by
  unfold maxLen at hcm
  obtain ⟨gb, hgb⟩ : ∃ gb, gb = ((l.take most).any (fun x => decide (long < x.bs.length)) || decide (most < l.length)) := ⟨_, rfl⟩
  rw [← hgb]
  have HGB := hid hgb
  clear hgb
  go_enter Try.func28, Try.ntmps28
  go_wp2_with fail
  go_loop [7] (fun s7 => ∃ k : Nat, k ≤ l.length ∧ k ≤ most ∧ s7 = .int .i64 k ∧ ∀ x ∈ l.take k, ¬ long < x.bs.length) (fun s7 => most - (intOf s7).toNat)
  case atStart => exact ⟨0, Nat.zero_le _, Nat.zero_le _, rfl, fun x hx => by simp at hx⟩
  case round =>
    obtain ⟨k, hk, hkm, rfl, hno⟩ := hrel
    by_cases hlt : k < l.length ∧ k < most
    · obtain ⟨hlt, hlm⟩ := hlt
      have hx := indexBS h hlt cap
      have hget : l[k]? = some l[k] := by simp [hlt]
      have c0 := RdBS h hget
      have htk : l.take (k + 1) = l.take k ++ [l[k]] := List.take_succ_eq_append_getElem hlt
      have hmem : l[k] ∈ l.take most := by rw [List.mem_take_iff_getElem]; exact ⟨k, by omega, rfl⟩
      generalize l[k] = x at *
      by_cases hg : long < x.bs.length
      · have HN := hid (show ((l.take most).any (fun x => decide (long < x.bs.length)) || decide (most < l.length)) = true by
          rw [Bool.or_eq_true]
          exact Or.inl (List.any_eq_true.2 ⟨x, hmem, by simpa using hg⟩))
        clear hno htk hmem hget
        go_wp2_with fail
        go_ret
        exact ⟨by rw [HGB.out, HN.out]; rfl, rfl⟩
      · have HN : Hid (∀ y ∈ l.take (k + 1), ¬ long < y.bs.length) := fun y hy => by
          rw [htk] at hy
          rcases List.mem_append.1 hy with hy | hy
          · exact hno y hy
          · rw [List.mem_singleton] at hy; subst hy; exact hg
        clear hno htk hmem hget
        go_wp2_with fail
        go_round
        case rel => exact ⟨k + 1, by omega, by omega, by go_num, HN.out⟩
        case measure => simp [intOf]; omega
    · have HN := hid (show ((l.take most).any (fun x => decide (long < x.bs.length)) || decide (most < l.length)) = decide (most < l.length) by
        have h1 : l.take most = l.take k := by
          by_cases h2 : most ≤ l.length
          · have : k = most := by omega
            rw [this]
          · have : k = l.length := by omega
            rw [this, List.take_of_length_le (by omega), List.take_of_length_le (by omega)]
        rw [h1]
        have h3 : (l.take k).any (fun x => decide (long < x.bs.length)) = false := by
          rw [List.any_eq_false]
          intro y hy
          simpa using hno y hy
        rw [h3, Bool.false_or])
      have HN := HN.out
      by_cases h1 : k < l.length
      · have h2 : ¬ k < most := by omega
        have HM := hid (HN.trans (show decide (most < l.length) = true by simp; omega))
        have hd2 : (most : Int) < (l.length : Int) := by omega
        clear hlt hno HN
        go_wp2_with fail
        go_ret
        exact ⟨by rw [HGB.out, HM.out]; rfl, rfl⟩
      · clear hlt
        by_cases h2 : most < l.length
        · have HM := hid (HN.trans (decide_eq_true h2))
          clear HN hno
          go_wp2_with fail
          go_ret
          exact ⟨by rw [HGB.out, HM.out]; rfl, rfl⟩
        · have HM := hid (HN.trans (decide_eq_false h2))
          have h3 : ¬ (most : Int) < (l.length : Int) := by omega
          clear HN hno
          go_wp2_with fail
          go_ret
          exact ⟨by rw [HGB.out, HM.out]; rfl, rfl⟩
end Go.Proofs.Ytopabknlgmihpaa
