/- The document's disk: drop. -/
import Derived.Test.YtopabknlgmihpaaRef12C
namespace Go.Proofs.Ytopabknlgmihpaa
open Go Go.RowKit Go.MapKept Go.ChangeMaps Go.Maps

theorem infoF : (Try.prog.info? 88).map (fun i => (i.zero, i.size, i.bytes)) = some (some (.agg #[.string ⟨#[]⟩, .slice none 0 0, .slice none 0 0]), 3, 64) := by kernel_rfl
theorem oneF : ∀ x : RF, ∀ u ∈ encF x, u.oneCell' = true := fun x u hu => by simp [encF] at hu; rcases hu with rfl | rfl | rfl <;> rfl
theorem elemF : ElemT Try.prog 79 88 encF 3 64 := by
  obtain ⟨i, hi, hz0, hz1, hz2⟩ := info_parts infoF
  exact ⟨Try.underlying79, ⟨i, _, hi, hz0, hz1, hz2, rfl⟩, encF_len, by omega, oneF, by omega⟩
/-- The disk has other files; the blocks E may have come in. -/
def RkPost (w : World) (q : Nat) (s : RkS) (l' : List RF) (E : Nat → Prop) (w' : World) : Prop := ∃ v', Rk w' q { s with v := v', l := l' } ∧ (∀ g, ({ s with v := v', l := l' } : RkS).Blk q g → s.Blk q g ∨ w.heap.size ≤ g ∨ E g) ∧ Keeps (· = q) w w'
theorem Rk.setList {w w1 : World} {q : Nat} {s : RkS} (h : Rk w q s) (hb : Below w.heap.size w w1) {v' : Value} {l' : List RF} (ho : Owns w.heap.size 88 encF 3 w1 v' l') {E : Nat → Prop}
    (hsub : ∀ f ∈ l', f ∈ s.l ∨ (RfOk w f ∧ (f.S ≠ [] → f.gS ≠ q ∧ E f.gS) ∧ (f.T ≠ [] → f.gT ≠ q ∧ E f.gT))) : RkPost w q s l' E (w1.setCell ⟨q, 0, none⟩ v') := by
  have hq := h.lt q (Or.inl rfl)
  have hcell : w1.heap[q]? = some (.cells #[s.v, .int .i64 s.room, .int .i64 s.fuse, .bool s.down] 81 (0, 0)) := (hb.block q hq).trans h.cell
  have hk : Keeps (· = q) w (w1.setCell ⟨q, 0, none⟩ v') := (below_keeps hb).trans (keeps_setCell w1 q 0 v') (fun g _ e => e)
  have hok : ∀ f ∈ l', RfOk w f ∧ (f.S ≠ [] → f.gS ≠ q) ∧ (f.T ≠ [] → f.gT ≠ q) := fun f hf => by
    rcases hsub f hf with h1 | ⟨h1, h2, h3⟩
    · exact ⟨h.ok f h1, fun hn => (h.fs f h1 hn).1, fun hn => (h.ft f h1 hn).1⟩
    · exact ⟨h1, fun hn => (h2 hn).1, fun hn => (h3 hn).1⟩
  refine ⟨v', ⟨?_, ?_, fun f hf => ?_, fun e => ?_, fun f hf hn => ⟨(hok f hf).2.1 hn, fun e => ?_⟩, fun f hf hn => ⟨(hok f hf).2.2 hn, fun e => ?_⟩⟩, fun g hg => ?_, hk⟩
  · exact (heap_setCell_at hcell v').trans rfl
  · refine (ho.mono (Nat.zero_le _)).same (fun g hg => ?_)
    have := (ho.lt g hg).1
    exact (keeps_setCell w1 q 0 v').block g (ho.lt g hg).2 (fun e => by omega)
  · exact (hok f hf).1.keeps hk (hok f hf).2.1 (hok f hf).2.2
  · have := (ho.lt q e).1
    omega
  · have h1 := (ho.lt _ e).1
    have h2 := (hok f hf).1.s.lt hn
    omega
  · have h1 := (ho.lt _ e).1
    have h2 := (hok f hf).1.t.lt hn
    omega
  · rcases hg with rfl | hg | ⟨f, hf, hg⟩
    · exact Or.inl (Or.inl rfl)
    · exact Or.inr (Or.inl (ho.lt g hg).1)
    · rcases hsub f hf with h1 | ⟨h1, h2, h3⟩
      · exact Or.inl (Or.inr (Or.inr ⟨f, h1, hg⟩))
      · rcases hg with ⟨hn, rfl⟩ | ⟨hn, rfl⟩
        · exact Or.inr (Or.inr (h2 hn).2)
        · exact Or.inr (Or.inr (h3 hn).2)
def dropR (l : List RF) (n : SKey) : List RF := l.filter (fun f => decide (f.name ≠ n))
theorem dropR_snoc (l : List RF) (n : SKey) (k : Nat) (hk : k < l.length) : dropR (l.take (k + 1)) n = if l[k].name = n then dropR (l.take k) n else dropR (l.take k) n ++ [l[k]] := by
  unfold dropR
  rw [List.take_succ_eq_append_getElem hk, List.filter_append]
  by_cases h : l[k].name = n
  · rw [if_pos h]; simp [h]
  · rw [if_neg h]; simp [h]
set_option maxRecDepth 100000 in
set_option maxHeartbeats 3200000 in
theorem RefDrop12_any (w : World) (q : Nat) (s : RkS) (n : SKey) (h : Rk w q s) (hl : s.l.length ≤ 1000) : Calls Try.prog 69 #[.pointer (some ⟨q, 0, none⟩), .string n.1] w fun e w' => e = .returned (.tuple #[]) ∧ RkPost w q s (dropR s.l n) (fun _ => False) w' := by
  obtain ⟨c0, _, _, _⟩ := h.cells
  have hfz := h.free 0
  have hq := h.lt q (Or.inl rfl)
  obtain ⟨aL, gL, oL, cL, hv, hcL, hr, _⟩ := h.own.rd encF_len
  rw [hv] at c0
  have HH := hid h
  obtain ⟨l, hle⟩ : ∃ l, l = s.l := ⟨_, rfl⟩
  rw [← hle] at c0 hr hl ⊢
  have HLE := hid hle
  clear h hv hle
  go_enter Try.func69, Try.ntmps69
  go_wp2
  go_loopw [4, 5] (fun s4 s5 wr => ∃ k : Nat, k ≤ l.length ∧ s5 = .int .i64 k ∧ Owns w.heap.size 88 encF 3 wr s4 (dropR (l.take k) n) ∧ Below w.heap.size w wr) (fun _ s5 _ => l.length - (intOf s5).toNat)
  case atStart => exact ⟨0, Nat.zero_le _, rfl, Owns.nil _ _ _ _ _, Below.refl _ _⟩
  case round =>
    obtain ⟨k, hk, rfl, hown, hb⟩ := hrel
    have d0 : wr.cell? ⟨q, 0, none⟩ = some (.slice aL l.length cL) := by rw [hb.cell (p := ⟨q, 0, none⟩) hq]; exact c0
    have hsz := hb.size
    clear c0
    by_cases hlt : k < l.length
    · have hx := hr.index (P := Try.prog) Try.underlying79 sizeF hlt cL
      have hget : l[k]? = some l[k] := by simp [hlt]
      obtain ⟨f0, f1, f2⟩ := RdF (hr.below hb) hget
      have hne := name_eq (x := l[k].name) (n := n)
      have hsnoc := dropR_snoc l n k hlt
      have hlen : (dropR (l.take k) n).length ≤ k := Nat.le_trans (List.length_filter_le _ _) (List.length_take_le _ _)
      by_cases he : l[k].name = n
      · rw [if_pos he] at hsnoc
        rw [decide_eq_true he] at hne
        have hne2 : (l[k].name.1.toList != n.1.toList) = false := by unfold bne; rw [hne]; rfl
        generalize l[k] = x at *
        have HS := hid hsnoc
        have HB := hid hb
        have HR := hid hr
        have HO := hid hown
        clear he hsnoc hr hb hget f1 f2 hown
        go_wp2_with fail
        go_roundw
        case rel => exact ⟨k + 1, by omega, by go_num, by rw [HS.out]; exact HO.out, HB.out⟩
        case measure => simp [intOf]; omega
      · rw [if_neg he] at hsnoc
        rw [decide_eq_false he] at hne
        have hne2 : (l[k].name.1.toList != n.1.toList) = true := by unfold bne; rw [hne]; rfl
        generalize l[k] = x at *
        have HS := hid hsnoc
        have HB := hid hb
        have HR := hid hr
        clear he hsnoc hr hb hget
        go_wp2_with (at_builtin; refine wpList_push elemF rfl _ _ rfl w.heap.size _ (dropR (l.take k) n) rfl (hown.alloc _) wr.heap.size 1 x rfl (cells_new _ _ _) (by omega) (by simp; omega) ?_; intro v' w1 hown' hgrow)
        have HO := hid hown'
        have HB2 := hid (Owns.push (hown.alloc _) (HB.out.alloc (by omega) _) hgrow (by simp; omega))
        clear hown' hgrow hown
        go_wp2
        go_roundw
        case rel => exact ⟨k + 1, by omega, by go_num, by rw [HS.out]; exact HO.out, HB2.out⟩
        case measure => simp [intOf]; omega
    · have hk' : l.take k = l := List.take_of_length_le (by omega)
      rw [hk'] at hown
      have HP := hid (HH.out.setList hb hown (E := fun _ => False) (fun f hf => Or.inl (by rw [← HLE.out]; exact (List.mem_filter.1 hf).1)))
      obtain ⟨aT, gT, oT, cT, rfl, _, _, _⟩ := hown.rd encF_len
      have hfz2 : wr.frozen? ⟨q, 0, none⟩ = false := by simp [World.frozen?, (hb.block q hq).trans HH.out.cell]
      clear hr hb hk' hown hfz
      go_wp2_with fail
      go_end0
      exact ⟨rfl, HP.out⟩
end Go.Proofs.Ytopabknlgmihpaa
