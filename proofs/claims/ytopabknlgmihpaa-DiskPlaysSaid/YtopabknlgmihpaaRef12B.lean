/- The document's disk: Used, name, all. -/
import Derived.Test.YtopabknlgmihpaaRef12A
import Derived.Test.YtopabknlgmihpaaRegion
namespace Go.Proofs.Ytopabknlgmihpaa
open Go Go.RowKit Go.MapKept Go.ChangeMaps Go.Maps

def totR (l : List RF) : Nat := (l.map (fun f => f.S.length + f.T.length)).sum
theorem totR_snoc (l : List RF) (f : RF) : totR (l ++ [f]) = totR l + (f.S.length + f.T.length) := by
  unfold totR
  rw [List.map_append, List.sum_append]
  simp
theorem totR_take (l : List RF) (k : Nat) : totR (l.take k) ≤ totR l := by
  have h : totR (l.take k ++ l.drop k) = totR (l.take k) + totR (l.drop k) := by unfold totR; rw [List.map_append, List.sum_append]
  rw [List.take_append_drop] at h
  omega
set_option maxRecDepth 100000 in
set_option maxHeartbeats 3200000 in
theorem RefUsed_any (w : World) (q : Nat) (s : RkS) (h : Rk w q s) (hl : s.l.length ≤ 1000) (hT : totR s.l ≤ 1073741824) : Calls Try.prog 53 #[.pointer (some ⟨q, 0, none⟩)] w fun e w' => e = .returned (.int .i64 (totR s.l : Nat)) ∧ Ext w w' := by
  obtain ⟨c0, _, _, _⟩ := h.cells
  obtain ⟨aL, gL, oL, cL, hv, hcL, hr, _⟩ := h.own.rd encF_len
  rw [hv] at c0
  generalize s.l = l at *
  clear h hv
  go_enter Try.func53, Try.ntmps53
  go_wp2
  go_loopw [3, 4] (fun s3 s4 wr => ∃ k : Nat, k ≤ l.length ∧ s4 = .int .i64 k ∧ s3 = .int .i64 (totR (l.take k) : Nat) ∧ Ext w wr) (fun _ s4 _ => l.length - (intOf s4).toNat)
  case atStart => exact ⟨0, Nat.zero_le _, rfl, by simp [totR], Ext.refl _⟩
  case round =>
    obtain ⟨k, hk, rfl, rfl, hE⟩ := hrel
    have d0 : wr.cell? ⟨q, 0, none⟩ = some (.slice aL l.length cL) := (hE.keeps (S := fun _ => False)).cell (fun h => h) c0
    clear c0
    by_cases hlt : k < l.length
    · have hx := hr.index (P := Try.prog) Try.underlying79 sizeF hlt cL
      have hget : l[k]? = some l[k] := by simp [hlt]
      obtain ⟨f0, f1, f2⟩ := RdF (hr.below hE.below) hget
      have htk : l.take (k + 1) = l.take k ++ [l[k]] := List.take_succ_eq_append_getElem hlt
      have hsn := totR_snoc (l.take k) l[k]
      rw [← htk] at hsn
      have hle := totR_take l (k + 1)
      generalize l[k] = x at *
      have HS := hid hsn
      have HE := hid hE
      have HR := hid hr
      have hb1 : totR (l.take k) + (x.S.length + x.T.length) ≤ 1073741824 := by omega
      generalize totR (l.take k) = tk at *
      clear htk hr hE hget f0 hsn hle
      go_wp2
      go_quiet (fail)
      go_wp2
      go_roundw
      case rel => exact ⟨k + 1, by omega, by go_num, by rw [HS.out]; go_num, HE.out.drewN _⟩
      case measure => simp [intOf]; omega
    · have hk' : l.take k = l := List.take_of_length_le (by omega)
      rw [hk']
      have HE := hid hE
      clear hr hE hk'
      go_wp2_with fail
      go_ret
      exact ⟨rfl, HE.out⟩
set_option maxRecDepth 100000 in
set_option maxHeartbeats 3200000 in
theorem RefAll_any (w : World) (f : RF) (h : RfOk w f) (hl : f.S.length + f.T.length ≤ 1073741824) : Calls Try.prog 68 #[.agg #[.string f.name.1, .slice f.aS f.S.length f.cS, .slice f.aT f.T.length f.cT]] w fun e w' => ∃ v, e = .returned v ∧ OwnB w' v (f.S ++ f.T) ∧ (∀ g, v.ownBlock = some g → w.heap.size ≤ g) ∧ Below w.heap.size w w' := by
  have hE0 : Ext w (w.alloc (.cells #[.string f.name.1, .slice f.aS f.S.length f.cS, .slice f.aT f.T.length f.cT] 88)) := (Ext.refl w).alloc _
  have HF : Hid (∀ W, Below (w.heap.size + 1) (w.alloc (.cells #[.string f.name.1, .slice f.aS f.S.length f.cS, .slice f.aT f.T.length f.cT] 88)) W → W.cell? ⟨w.heap.size, 0, none⟩ = some (.string f.name.1) ∧ W.cell? ⟨w.heap.size, 1, none⟩ = some (.slice f.aS f.S.length f.cS) ∧ W.cell? ⟨w.heap.size, 2, none⟩ = some (.slice f.aT f.T.length f.cT)) := fun W hW => ⟨by rw [hW.cell (p := ⟨w.heap.size, 0, none⟩) (by simp)]; simp, by rw [hW.cell (p := ⟨w.heap.size, 1, none⟩) (by simp)]; simp, by rw [hW.cell (p := ⟨w.heap.size, 2, none⟩) (by simp)]; simp⟩
  have HE := hid hE0
  have HO := hid h
  clear h hE0
  go_enter Try.func68, Try.ntmps68
  go_wp2_with fail
  refine wp_region_C (fun W => Below (w.heap.size + 1) (w.alloc (.cells #[.string f.name.1, .slice f.aS f.S.length f.cS, .slice f.aT f.T.length f.cT] 88)) W) (by kernel_rfl) ?_
  have hC0 : (fun W => Below (w.heap.size + 1) (w.alloc (.cells #[.string f.name.1, .slice f.aS f.S.length f.cS, .slice f.aT f.T.length f.cT] 88)) W) (World.drew (w.alloc (.cells #[.string f.name.1, .slice f.aS f.S.length f.cS, .slice f.aT f.T.length f.cT] 88))) := (((Ext.refl (w.alloc (.cells #[.string f.name.1, .slice f.aS f.S.length f.cS, .slice f.aT f.T.length f.cT] 88))).drew).below).mono (by simp)
  have hC1 : (fun W => Below (w.heap.size + 1) (w.alloc (.cells #[.string f.name.1, .slice f.aS f.S.length f.cS, .slice f.aT f.T.length f.cT] 88)) W) ((World.drew (w.alloc (.cells #[.string f.name.1, .slice f.aS f.S.length f.cS, .slice f.aT f.T.length f.cT] 88))).alloc (.cells #[] 5)) := hC0.trans (((Ext.refl _).alloc _).below.mono (by simp))
  refine takeC (i := 1) (v := ?_) rfl (by kernel_rfl) (by kernel_rfl) (by kernel_rfl) (fun _ _ _ h => h) (by assumption) (Or.inl ⟨?_, ?_⟩) (fun K hK => ?_)
  rotate_left
  · rfl
  · (intro W hW; obtain ⟨f0, f1, f2⟩ := HF.out W hW; go_simp; first | done | with_reducible rfl)
  (try go_simp)
  refine hK _ _ ?_
  clear hK K
  refine takeC (i := 2) (v := ?_) rfl (by kernel_rfl) (by kernel_rfl) (by kernel_rfl) (fun _ _ _ h => h) (by assumption) (Or.inl ⟨?_, ?_⟩) (fun K hK => ?_)
  rotate_left
  · rfl
  · (intro W hW; obtain ⟨f0, f1, f2⟩ := HF.out W hW; go_simp; first | done | with_reducible rfl)
  (try go_simp)
  refine hK _ _ ?_
  clear hK K
  refine takeC (i := 4) (v := ?_) rfl (by kernel_rfl) (by kernel_rfl) (by kernel_rfl) (fun _ _ _ h => h) (by assumption) (Or.inl ⟨?_, ?_⟩) (fun K hK => ?_)
  rotate_left
  · rfl
  · (intro W hW; obtain ⟨f0, f1, f2⟩ := HF.out W hW; go_simp; first | done | with_reducible rfl)
  (try go_simp)
  refine hK _ _ ?_
  clear hK K
  refine takeC (i := 5) (v := ?_) rfl (by kernel_rfl) (by kernel_rfl) (by kernel_rfl) (fun _ _ _ h => h) (by assumption) (Or.inl ⟨?_, ?_⟩) (fun K hK => ?_)
  rotate_left
  · rfl
  · (intro W hW; obtain ⟨f0, f1, f2⟩ := HF.out W hW; go_simp; first | done | with_reducible rfl)
  (try go_simp)
  refine hK _ _ ?_
  clear hK K
  refine callC (k := 0) (by kernel_rfl) rfl ?_ (fun K hK => ?_)
  · rfl
  go_simp
  refine hK _ _ (by assumption) ?_
  clear hK K
  refine callC (k := 3) (by kernel_rfl) rfl ?_ (fun K hK => ?_)
  · rfl
  have hown0 : OwnB ((World.drew (w.alloc (.cells #[.string f.name.1, .slice f.aS f.S.length f.cS, .slice f.aT f.T.length f.cT] 88))).alloc (.cells #[] 5)) (.slice (some ⟨w.heap.size + 1, 0, none⟩) 0 0) [] :=
    Or.inr ⟨w.heap.size + 1, 0, #[], rfl, by have := heap_alloc_new (World.drew (w.alloc (.cells #[.string f.name.1, .slice f.aS f.S.length f.cS, .slice f.aT f.T.length f.cT] 88))) (.cells #[] 5); simpa using this, Nat.le_refl _, by unfold maxLen; omega, Nat.le_refl _, rfl⟩
  have hbw : ∀ W, Below (w.heap.size + 1) (w.alloc (.cells #[.string f.name.1, .slice f.aS f.S.length f.cS, .slice f.aT f.T.length f.cT] 88)) W → Below w.heap.size w W := fun W hW => HE.out.below.trans (hW.mono (by omega))
  have hsS := Src.ofRd (cap := f.cS) (HO.out.s.below (hbw _ hC1))
  refine wp_append_B _ _ rfl _ [] f.S rfl hown0 _ rfl hsS (by simp; omega) ?_
  intro v5 w5 hown5 hg5 hat5
  have hf5 : ∀ g, v5.ownBlock = some g → w.heap.size + 1 ≤ g := fun g hg => by
    rcases hat5 with h | h
    · rw [h] at hg; cases hg; exact Nat.le_refl _
    · rw [h] at hg; simp at hg; omega
  have hC2 : (fun W => Below (w.heap.size + 1) (w.alloc (.cells #[.string f.name.1, .slice f.aS f.S.length f.cS, .slice f.aT f.T.length f.cT] 88)) W) w5 := Below.grown hC1 hg5 (by simp) (fun g hg => by cases hg; exact Nat.le_refl _)
  rw [List.nil_append] at hown5
  have hsz5 : w.heap.size + 1 ≤ w5.heap.size := by have := Below.size hC2; simp at this; omega
  clear hC1 hC0 hown0 hsS hg5 hat5
  refine hK _ _ hC2 ?_
  clear hK K
  refine callC (k := 6) (by kernel_rfl) rfl ?_ (fun K hK => ?_)
  · rfl
  have hsT := Src.ofRd (cap := f.cT) (HO.out.t.below (hbw _ hC2))
  refine wp_append_B _ _ rfl _ f.S f.T rfl hown5 _ rfl hsT (by omega) ?_
  intro v6 w6 hown6 hg6 hat6
  have hf6 : ∀ g, v6.ownBlock = some g → w.heap.size ≤ g := fun g hg => by
    rcases hat6 with h | h
    · rw [h] at hg; have := hf5 g hg; omega
    · rw [h] at hg; simp at hg; omega
  have hC3 : (fun W => Below (w.heap.size + 1) (w.alloc (.cells #[.string f.name.1, .slice f.aS f.S.length f.cS, .slice f.aT f.T.length f.cT] 88)) W) w6 := Below.grown hC2 hg6 hsz5 (fun g hg => hf5 g hg)
  have HW6 := hid hown6
  have HF6 := hid hf6
  have HB6 := hid (hbw _ hC3)
  clear hC2 hown5 hsT hg6 hat6 hf5 hf6 hown6
  refine hK _ _ hC3 ?_
  clear hK K
  refine takeC (i := 7) (v := ?_) rfl (by kernel_rfl) (by kernel_rfl) (by kernel_rfl) (fun _ _ _ h => h) (by assumption) (Or.inl ⟨?_, ?_⟩) (fun K hK => ?_)
  rotate_left
  · rfl
  · (intro W hW; obtain ⟨f0, f1, f2⟩ := HF.out W hW; go_simp; first | done | with_reducible rfl)
  (try go_simp)
  refine hK _ _ ?_
  clear hK K
  refine doneC (by kernel_rfl) ?_
  clear hC3
  go_wp2
  go_ret
  exact ⟨_, rfl, HW6.out, HF6.out, HB6.out⟩
end Go.Proofs.Ytopabknlgmihpaa
