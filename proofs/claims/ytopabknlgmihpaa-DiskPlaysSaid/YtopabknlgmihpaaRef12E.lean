/- The document's disk: put. -/
import Derived.Test.YtopabknlgmihpaaRef12D
namespace Go.Proofs.Ytopabknlgmihpaa
open Go Go.RowKit Go.MapKept Go.ChangeMaps Go.Maps

/-- Elements in their order, with one more: the text's own loop. -/
def insG {α : Type} (lt : α → α → Bool) (t : α) : List α → Bool → List α × Bool
  | [], d => ([], d)
  | x :: r, d => if !d && lt t x then (let z := insG lt t r true; (t :: x :: z.1, z.2)) else (let z := insG lt t r d; (x :: z.1, z.2))
def addG {α : Type} (lt : α → α → Bool) (l : List α) (t : α) : List α := let z := insG lt t l false; if z.2 then z.1 else z.1 ++ [t]
theorem insG_snoc {α : Type} (lt : α → α → Bool) (t x : α) : ∀ (l : List α) (d : Bool), insG lt t (l ++ [x]) d =
    if !(insG lt t l d).2 && lt t x then ((insG lt t l d).1 ++ [t, x], true) else ((insG lt t l d).1 ++ [x], (insG lt t l d).2)
  | [], d => by
    simp only [List.nil_append, insG]
    by_cases h : (!d && lt t x) = true
    · simp only [h, if_true]
    · simp only [h, Bool.false_eq_true, if_false]
  | y :: r, d => by
    simp only [List.cons_append, insG]
    by_cases h : (!d && lt t y) = true
    · simp only [h, if_true]
      rw [insG_snoc lt t x r true]
      split <;> simp
    · simp only [h, Bool.false_eq_true, if_false]
      rw [insG_snoc lt t x r d]
      split <;> simp
theorem insG_len {α : Type} (lt : α → α → Bool) (t : α) : ∀ (l : List α) (d : Bool), (insG lt t l d).1.length ≤ l.length + if d then 0 else 1
  | [], d => by simp [insG]
  | y :: r, d => by
    simp only [insG]
    have h1 := insG_len lt t r true
    have h2 := insG_len lt t r d
    split
    · rename_i h
      have : d = false := by cases d <;> simp_all
      subst this
      simp at h1 ⊢
      omega
    · simp only [List.length_cons]
      omega

def ltR (t x : RF) : Bool := !Go.Op.bytesLess x.name.1.toList t.name.1.toList && !(x.name.1.toList == t.name.1.toList)
theorem insG_mem {α : Type} (lt : α → α → Bool) (t : α) : ∀ (l : List α) (d : Bool) (y : α), y ∈ (insG lt t l d).1 → y ∈ l ∨ y = t
  | [], d, y, h => by simp [insG] at h
  | x :: r, d, y, h => by
    simp only [insG] at h
    split at h
    · simp only [List.mem_cons] at h
      rcases h with h | h | h
      · exact Or.inr h
      · exact Or.inl (by rw [h]; exact List.mem_cons_self)
      · rcases insG_mem lt t r _ y h with h | h
        · exact Or.inl (List.mem_cons_of_mem _ h)
        · exact Or.inr h
    · simp only [List.mem_cons] at h
      rcases h with h | h
      · exact Or.inl (by rw [h]; exact List.mem_cons_self)
      · rcases insG_mem lt t r _ y h with h | h
        · exact Or.inl (List.mem_cons_of_mem _ h)
        · exact Or.inr h
theorem addG_mem {α : Type} (lt : α → α → Bool) (t : α) (l : List α) (y : α) (h : y ∈ addG lt l t) : y ∈ l ∨ y = t := by
  unfold addG at h
  simp only at h
  split at h
  · exact insG_mem lt t l _ y h
  · rcases List.mem_append.1 h with h | h
    · exact insG_mem lt t l _ y h
    · exact Or.inr (List.mem_singleton.1 h)
set_option maxRecDepth 100000 in
set_option maxHeartbeats 3200000 in
theorem RefPut12_any (w : World) (q : Nat) (s : RkS) (t : RF) (h : Rk w q s) (hl : s.l.length ≤ 1000) (ht : RfOk w t) (hS : t.S ≠ [] → t.gS ≠ q) (hT : t.T ≠ [] → t.gT ≠ q) : Calls Try.prog 67 #[.pointer (some ⟨q, 0, none⟩), .agg #[.string t.name.1, .slice t.aS t.S.length t.cS, .slice t.aT t.T.length t.cT]] w fun e w' => e = .returned (.tuple #[]) ∧ RkPost w q s (addG ltR s.l t) (fun g => (t.S ≠ [] ∧ g = t.gS) ∨ (t.T ≠ [] ∧ g = t.gT)) w' := by
  have hbx : Below w.heap.size w (w.alloc (.cells #[.string t.name.1, .slice t.aS t.S.length t.cS, .slice t.aT t.T.length t.cT] 88)) := ((Ext.refl w).alloc _).below
  obtain ⟨c0, _, _, _⟩ := h.cells
  have hq := h.lt q (Or.inl rfl)
  obtain ⟨aL, gL, oL, cL, hv, hcL, hr, _⟩ := h.own.rd encF_len
  rw [hv] at c0
  have HC0 := hid (fun W (hW : Below w.heap.size w W) => show W.cell? ⟨q, 0, none⟩ = some (.slice aL s.l.length cL) by rw [hW.cell (p := ⟨q, 0, none⟩) hq]; exact c0)
  have HFZ := hid (fun W (hW : Below w.heap.size w W) => show W.frozen? ⟨q, 0, none⟩ = false by simp [World.frozen?, (hW.block q hq).trans h.cell])
  have HST := hid (fun W v' (hW : Below w.heap.size w W) (ho : Owns w.heap.size 88 encF 3 W v' (addG ltR s.l t)) => h.setList hW ho (E := fun g => (t.S ≠ [] ∧ g = t.gS) ∨ (t.T ≠ [] ∧ g = t.gT)) (fun f hf => by
    rcases addG_mem ltR t s.l f hf with h1 | h1
    · exact Or.inl h1
    · subst h1
      exact Or.inr ⟨ht, fun hn => ⟨hS hn, Or.inl ⟨hn, rfl⟩⟩, fun hn => ⟨hT hn, Or.inr ⟨hn, rfl⟩⟩⟩))
  have TC : Hid (∀ W, Below (w.heap.size + 1) (w.alloc (.cells #[.string t.name.1, .slice t.aS t.S.length t.cS, .slice t.aT t.T.length t.cT] 88)) W → W.cell? ⟨w.heap.size, 0, none⟩ = some (.string t.name.1) ∧ W.cell? ⟨w.heap.size, 1, none⟩ = some (.slice t.aS t.S.length t.cS) ∧ W.cell? ⟨w.heap.size, 2, none⟩ = some (.slice t.aT t.T.length t.cT)) := fun W hW =>
    ⟨by rw [hW.cell (p := ⟨w.heap.size, 0, none⟩) (by simp)]; simp, by rw [hW.cell (p := ⟨w.heap.size, 1, none⟩) (by simp)]; simp, by rw [hW.cell (p := ⟨w.heap.size, 2, none⟩) (by simp)]; simp⟩
  obtain ⟨L, hLe⟩ : ∃ L, L = s.l := ⟨_, rfl⟩
  rw [← hLe] at hr hl HC0 HST
  rw [← hLe]
  have HBX := hid hbx
  clear h hv hLe c0 hbx ht hS hT
  go_enter Try.func67, Try.ntmps67
  go_wp2_with fail
  go_loopw [4, 5, 6] (fun s4 s5 s6 wr => ∃ k : Nat, k ≤ L.length ∧ s6 = .int .i64 k ∧ s5 = .bool (insG ltR t (L.take k) false).2 ∧ Owns (w.heap.size + 1) 88 encF 3 wr s4 (insG ltR t (L.take k) false).1 ∧ Below (w.heap.size + 1) (w.alloc (.cells #[.string t.name.1, .slice t.aS t.S.length t.cS, .slice t.aT t.T.length t.cT] 88)) wr) (fun _ _ s6 _ => L.length - (intOf s6).toNat)
  case atStart => exact ⟨0, Nat.zero_le _, rfl, rfl, Owns.nil _ _ _ _ _, Below.refl _ _⟩
  case round =>
    obtain ⟨k, hk, rfl, rfl, hown, hb⟩ := hrel
    have hlen := insG_len ltR t (L.take k) false
    have hlen2 : (L.take k).length ≤ 1000 := Nat.le_trans (List.length_take_le' _ _) hl
    have hbw : Below w.heap.size w wr := HBX.out.trans (hb.mono (by omega))
    have hsz := hb.size
    simp at hsz
    obtain ⟨t0, t1, t2⟩ := TC.out wr hb
    have d0 := HC0.out wr hbw
    by_cases hlt : k < L.length
    · have hx := hr.index (P := Try.prog) Try.underlying79 sizeF hlt cL
      have hget : L[k]? = some L[k] := by simp [hlt]
      have XC := hid (fun W (hW : Below w.heap.size w W) => RdF (hr.below hW) hget)
      obtain ⟨f0, f1, f2⟩ := XC.out wr hbw
      have hsnoc : L.take (k + 1) = L.take k ++ [L[k]] := List.take_succ_eq_append_getElem hlt
      have hins := insG_snoc ltR t L[k] (L.take k) false
      rw [← hsnoc] at hins
      generalize L[k] = x at *
      generalize (insG ltR t (L.take k) false) = z at *
      obtain ⟨zl, zd⟩ := z
      simp only at hlen hown hins
      have HR := hid hr
      clear hsnoc hget hr
      by_cases hzd : zd = true
      · subst hzd
        simp only [Bool.not_true, Bool.false_and, Bool.false_eq_true, if_false] at hins
        have HI := hid hins
        clear hins
        go_wp2_with fail
        go_quiet (fail)
        go_wp2_with (at_builtin; refine wpList_push elemF rfl _ _ rfl (w.heap.size + 1) _ zl rfl ((hown.alloc _).drewN nq) wr.heap.size 1 x rfl (cells_new _ _ _) (by simp at hlen; omega) (by simp; omega) ?_; intro v' w2 hown' hgrow)
        have HO := hid hown'
        have HB2 := hid (Owns.push ((hown.alloc _).drewN nq) (bdrewN (hb.alloc (by omega) _) nq) hgrow (by simp; omega))
        clear hown' hgrow hown hb hbw
        go_wp2
        go_roundw
        case rel => exact ⟨k + 1, by omega, by go_num, by rw [HI.out], by rw [HI.out]; exact HO.out, HB2.out⟩
        case measure => simp [intOf]; omega
      · have hzf : zd = false := by cases zd <;> simp_all
        subst hzf
        clear hzd
        simp only [Bool.not_false, Bool.true_and] at hins
        cases ha : Go.Op.bytesLess x.name.1.toList t.name.1.toList
        case true =>
          have hat : ¬ ltR t x = true := by unfold ltR; rw [ha]; simp
          rw [if_neg hat] at hins
          have HI := hid hins
          clear hins hat
          go_wp2_with fail
          go_quiet (fail)
          have hownq := hown.drewN nq
          have hbq := bdrewN hb nq
          go_wp2_with ((at_builtin; refine wpList_push elemF rfl _ _ rfl (w.heap.size + 1) _ zl rfl (hownq.alloc _) wr.heap.size 1 x rfl (cells_new _ _ _) (by simp at hlen; omega) (by simp; omega) ?_; intro v' w2 hown' hgrow))
          have HO := hid hown'
          have HB2 := hid (Owns.push ((hown.alloc _).drewN nq) (bdrewN (hb.alloc (by omega) _) nq) hgrow (by simp; omega))
          clear hown' hgrow hown hb hbw
          go_wp2
          go_roundw
          case rel => exact ⟨k + 1, by omega, by go_num, by rw [HI.out], by rw [HI.out]; exact HO.out, HB2.out⟩
          case measure => simp [intOf]; omega
        case false =>
         cases hb0 : (x.name.1.toList == t.name.1.toList)
         case false =>
          have hat : ltR t x = true := by unfold ltR; rw [ha, hb0]; rfl
          rw [if_pos hat] at hins
          have HI := hid hins
          clear hins hat
          go_wp2_with fail
          go_quiet (fail)
          have hownq := hown.drewN nq
          have hbq := bdrewN hb nq
          go_wp2_with (first | (at_builtin; refine wpList_push elemF rfl _ _ rfl (w.heap.size + 1) _ zl rfl (hownq.alloc _) wr.heap.size 1 t rfl (cells_new _ _ _) (by simp at hlen; omega) (by simp; omega) ?_; intro v2 w2 hown2 hgrow2; have hb2 := Owns.push (hownq.alloc _) (hbq.alloc (by simp; omega) _) hgrow2 (by simp; omega); have hs2 := hb2.size; simp at hs2; have hbw2 := HBX.out.trans (hb2.mono (by omega)); have d2 := HC0.out w2 hbw2; obtain ⟨e0, e1, e2⟩ := XC.out w2 hbw2; clear t0 t1 t2 d0 f0 f1 f2 hgrow2 hownq hown hb hbq hbw) | (at_builtin; refine wpList_push elemF rfl _ _ rfl (w.heap.size + 1) _ (zl ++ [t]) rfl (hown2.alloc _) w2.heap.size 1 x rfl (cells_new _ _ _) (by simp at hlen ⊢; omega) (by simp; omega) ?_; intro v3 w3 hown3 hgrow3))
          have HO := hid hown3
          have HB2 := hid (Owns.push (hown2.alloc _) (hb2.alloc (by omega) _) hgrow3 (by simp; omega))
          clear hown3 hgrow3 hown2 hb2 hbw2
          go_wp2
          go_roundw
          case rel => exact ⟨k + 1, by omega, by go_num, by rw [HI.out], by rw [HI.out]; have := HO.out; rw [List.append_assoc] at this; exact this, HB2.out⟩
          case measure => simp [intOf]; omega
         case true =>
          have hat : ¬ ltR t x = true := by unfold ltR; rw [ha]; rw [hb0]; simp
          rw [if_neg hat] at hins
          have HI := hid hins
          clear hins hat
          go_wp2_with fail
          go_quiet (fail)
          have hownq := hown.drewN nq
          have hbq := bdrewN hb nq
          go_wp2_with ((at_builtin; refine wpList_push elemF rfl _ _ rfl (w.heap.size + 1) _ zl rfl (hownq.alloc _) wr.heap.size 1 x rfl (cells_new _ _ _) (by simp at hlen; omega) (by simp; omega) ?_; intro v' w2 hown' hgrow))
          have HO := hid hown'
          have HB2 := hid (Owns.push ((hown.alloc _).drewN nq) (bdrewN (hb.alloc (by omega) _) nq) hgrow (by simp; omega))
          clear hown' hgrow hown hb hbw
          go_wp2
          go_roundw
          case rel => exact ⟨k + 1, by omega, by go_num, by rw [HI.out], by rw [HI.out]; exact HO.out, HB2.out⟩
          case measure => simp [intOf]; omega
    · have hk' : L.take k = L := List.take_of_length_le (by omega)
      rw [hk'] at hown hlen
      rw [hk']
      have HZ : addG ltR L t = (if (insG ltR t L false).2 then (insG ltR t L false).1 else (insG ltR t L false).1 ++ [t]) := rfl
      generalize (insG ltR t L false) = z at *
      obtain ⟨zl, zd⟩ := z
      simp only at hown hlen HZ
      clear hk' hr
      cases zd with
      | true =>
        have HP := hid (HST.out wr _ hbw (by rw [HZ]; exact hown.mono (by omega)))
        have hfz := HFZ.out wr hbw
        obtain ⟨aT, gT, oT, cT, rfl, _, _, _⟩ := hown.rd encF_len
        clear HZ hown hb hbw
        go_wp2
        go_end0
        exact ⟨rfl, HP.out⟩
      | false =>
        go_wp2_with ((at_builtin; refine wpList_push elemF rfl _ _ rfl (w.heap.size + 1) _ zl rfl (hown.alloc _) wr.heap.size 1 t rfl (cells_new _ _ _) (by simp at hlen; omega) (by simp; omega) ?_; intro v2 w2 hown2 hgrow2; have hb2 := Owns.push (hown.alloc _) (hb.alloc (by omega) _) hgrow2 (by simp; omega); have hbw2 := HBX.out.trans (hb2.mono (by omega)); have HP := hid (HST.out w2 v2 hbw2 (by rw [HZ]; exact hown2.mono (by omega))); have hfz := HFZ.out w2 hbw2; have d2 := HC0.out w2 hbw2; obtain ⟨aT, gT, oT, cT, rfl, _, _, _⟩ := hown2.rd encF_len; clear HZ hown hb hbw hown2 hgrow2 hb2 hbw2))
        go_wp2
        go_end0
        have HP2 := HP.out
        rw [List.length_append] at HP2
        exact ⟨rfl, HP2⟩
end Go.Proofs.Ytopabknlgmihpaa
