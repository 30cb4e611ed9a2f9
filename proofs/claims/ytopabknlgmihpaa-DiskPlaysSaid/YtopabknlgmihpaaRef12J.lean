/- The document's disk: Boot. -/
import Derived.Test.YtopabknlgmihpaaRef12I
namespace Go.Proofs.Ytopabknlgmihpaa
open Go Go.RowKit Go.MapKept Go.ChangeMaps Go.Maps

theorem bootR_nilT (ks : List Int) (x : SKey × List UInt8 × List UInt8) (r : RL) (h : x.2.2 = []) : bootR ks (x :: r) = (x.1, x.2.1, []) :: bootR ks r := by
  simp only [bootR]; rw [if_pos h]
theorem bootR_all (x : SKey × List UInt8 × List UInt8) (r : RL) (h : x.2.2 ≠ []) : bootR [] (x :: r) = (x.1, x.2.1 ++ x.2.2, []) :: bootR [] r := by
  simp only [bootR]; rw [if_neg h]
theorem bootR_cut (q : Int) (ks : List Int) (x : SKey × List UInt8 × List UInt8) (r : RL) (h : x.2.2 ≠ []) : bootR (q :: ks) (x :: r) = (x.1, x.2.1 ++ x.2.2.take (keptT q x.2.2.length), []) :: bootR ks r := by
  simp only [bootR]; rw [if_neg h]
theorem RdS.take {α : Type} {enc : α → List Value} {k : Nat} {w : World} {a : Option Addr} {g off : Nat} {l : List α} (h : RdS enc k w a g off l) (n : Nat) : RdS enc k w a g off (l.take n) :=
  ⟨fun hl => h.some (fun e => hl (by rw [e]; simp)), fun hl => h.lt (fun e => hl (by rw [e]; simp)), fun i x hx j y hy => h.cells i x (by
    rw [List.getElem?_take] at hx
    split at hx
    · exact hx
    · cases hx) j y hy⟩
theorem runCutB (av : Option Addr) (n cv k : Nat) (c : Int) (hc : c = k) (h1 : k ≤ cv) (W : World) : (Instr.slice 22 (.slice av n cv) none (some (.int .i64 c)) none).run Try.prog W = .ok (.slice av k cv) W := by
  subst hc
  by_cases h0 : cv = 0
  · subst h0
    cases av with
    | none => simp [Instr.slice, run_underlying Try.underlying22, sizeB, Instr.sliceBounds, Instr.sliceBound, asIntOf, h1]
    | some a => simp [Instr.slice, run_underlying Try.underlying22, sizeB, Instr.sliceBounds, Instr.sliceBound, asIntOf, h1, Addr.add]
  · cases av with
    | none => simp [Instr.slice, run_underlying Try.underlying22, sizeB, Instr.sliceBounds, Instr.sliceBound, asIntOf, h1]
    | some a => simp [Instr.slice, run_underlying Try.underlying22, sizeB, Instr.sliceBounds, Instr.sliceBound, asIntOf, h1, h0, Addr.add]
theorem RdI {w : World} {a : Option Addr} {g off : Nat} {l : List Int} (h : RdS encI 1 w a g off l) {k : Nat} {x : Int} (hk : l[k]? = some x) : w.cell? ⟨g, off + k, none⟩ = some (.int .i64 x) := by
  have := h.cells k x hk 0 _ rfl
  simpa [encI] using this
theorem indexI {w : World} {a : Option Addr} {g off : Nat} {l : List Int} (h : RdS encI 1 w a g off l) {i : Nat} (hi : i < l.length) (cap : Nat) (W : World) :
    (Instr.indexAt 31 (.slice a l.length cap) (.int .i64 i)).run Try.prog W = .ok (.pointer (some ⟨g, off + i, none⟩)) W := by
  have := h.index (P := Try.prog) Try.underlying31 sizeInt hi cap W
  simpa using this
/-- What a round of Boot has come to. -/
structure BootAt (w wr : World) (q : Nat) (s s1 : RkS) (K : List Int) (i k : Nat) : Prop where
  rk : Rk wr q s1
  room : s1.room = s.room
  len : s1.l.length = s.l.length
  drop : s1.l.drop i = s.l.drop i
  done : (s1.l.take i).map RF.out ++ bootR (K.drop k) ((s.l.drop i).map RF.out) = bootR K (s.l.map RF.out)
  blk : ∀ g, s1.Blk q g → s.Blk q g ∨ w.heap.size ≤ g
  keeps : Keeps (s.Blk q) w wr
theorem BootAt.next {w wr w6 : World} {q : Nat} {s s1 : RkS} {K : List Int} {i k k' gL n cL : Nat} {x : RF} (h : BootAt w wr q s s1 K i k) (hi : s1.l[i]? = some x) (hv : s1.v = .slice (some ⟨gL, 0, none⟩) n cL) (hgL : s.Blk q gL ∨ w.heap.size ≤ gL) (hb : Below wr.heap.size wr w6)
    {aV : Option Addr} {gV oV cV : Nat} {bs : List UInt8} (hr : RdS encB 1 w6 aV gV oV bs) (hc : bs.length ≤ cV) (hg : bs ≠ [] → wr.heap.size ≤ gV)
    (hstep : ∀ r, bootR (K.drop k) (x.out :: r) = (x.name, bs, []) :: bootR (K.drop k') r) :
    Rk (w6.setCell ⟨gL, i * 3 + 1, none⟩ (.slice aV bs.length cV)) q { s1 with l := s1.l.set i { x with aS := aV, gS := gV, oS := oV, cS := cV, S := bs } } ∧
    BootAt w ((w6.setCell ⟨gL, i * 3 + 1, none⟩ (.slice aV bs.length cV)).setCell ⟨gL, i * 3 + 2, none⟩ (.slice none 0 0)) q s { s1 with l := (s1.l.set i { x with aS := aV, gS := gV, oS := oV, cS := cV, S := bs }).set i { x with aS := aV, gS := gV, oS := oV, cS := cV, S := bs, aT := none, gT := 0, oT := 0, cT := 0, T := [] } } K (i + 1) k' := by
  have hlt := (List.getElem?_eq_some_iff.1 hi).1
  have hown : s1.v.ownBlock = some gL := by rw [hv]; rfl
  have hgl : gL < wr.heap.size := h.rk.lt gL (Or.inr (Or.inl hown))
  have hq : q < wr.heap.size := h.rk.lt q (Or.inl rfl)
  have h1 := (h.rk.below hb).sure hi hv hr hc (fun hn => ⟨by have := hg hn; omega, by have := hg hn; omega⟩)
  have h2 := h1.tail0 (set_get hi) hv
  have hk1 : Keeps (s.Blk q) w (w6.setCell ⟨gL, i * 3 + 1, none⟩ (.slice aV bs.length cV)) := (h.keeps.trans (below_keeps hb) (fun _ _ e => e)).setCell (fun hl => by
    rcases hgL with h0 | h0
    · exact h0
    · simp only at hl; omega) _
  refine ⟨h1, h2, h.room, by simp only [List.length_set]; exact h.len, ?_, ?_, fun g hg0 => ?_, hk1.setCell (fun hl => by
    rcases hgL with h0 | h0
    · exact h0
    · simp only at hl; omega) _⟩
  · simp only
    rw [List.drop_set, if_pos (by omega), List.drop_set, if_pos (by omega), ← List.drop_drop, h.drop, List.drop_drop]
  · have hd := h.done
    have e1 : s.l.drop i = x :: s.l.drop (i + 1) := by
      rw [← h.drop, ← List.drop_drop (i := 1) (j := i), ← h.drop, List.drop_eq_getElem_cons hlt]
      have : s1.l[i] = x := (List.getElem?_eq_some_iff.1 hi).2
      rw [this]
      simp
    rw [e1, List.map_cons, hstep] at hd
    rw [← hd]
    simp only [List.set_set]
    rw [List.take_set, List.take_succ_eq_append_getElem hlt, List.set_append_right _ _ (by rw [List.length_take]; omega), List.length_take, Nat.min_eq_left (by omega), Nat.sub_self, List.set_cons_zero, List.map_append, List.append_assoc]
    rfl
  · rcases blk_set (s := { s1 with l := s1.l.set i { x with aS := aV, gS := gV, oS := oV, cS := cV, S := bs } }) hg0 with h0 | ⟨h0, rfl⟩ | ⟨h0, _⟩
    · rcases blk_set h0 with h3 | ⟨h3, rfl⟩ | ⟨h3, rfl⟩
      · exact h.blk g h3
      · exact Or.inr (Nat.le_trans h.keeps.size (hg h3))
      · exact h.blk _ (Or.inr (Or.inr ⟨x, List.mem_of_getElem? hi, Or.inr ⟨h3, rfl⟩⟩))
    · exact Or.inr (Nat.le_trans h.keeps.size (hg h0))
    · exact absurd rfl h0
theorem BootAt.end {w wr : World} {q : Nat} {s s1 : RkS} {K : List Int} {k : Nat} (h : BootAt w wr q s s1 K s.l.length k) : ∃ s', Rk ((wr.setCell ⟨q, 3, none⟩ (.bool false)).setCell ⟨q, 2, none⟩ (.int .i64 (-1))) q s' ∧ s'.abs = bootD K s.abs ∧ (∀ g, s'.Blk q g → s.Blk q g ∨ w.heap.size ≤ g) ∧ Keeps (s.Blk q) w ((wr.setCell ⟨q, 3, none⟩ (.bool false)).setCell ⟨q, 2, none⟩ (.int .i64 (-1))) := by
  refine ⟨_, (h.rk.setDown false).setFuse (-1), ?_, h.blk, (h.keeps.setCell (fun _ => Or.inl rfl) _).setCell (fun _ => Or.inl rfl) _⟩
  have hd := h.done
  rw [List.drop_length] at hd
  unfold RkS.abs bootD
  simp only
  rw [h.room, ← hd, ← h.len, List.take_length]
  simp [bootR]
set_option maxRecDepth 100000 in
set_option maxHeartbeats 6400000 in
theorem RefBoot12_any (w : World) (q : Nat) (s : RkS) (aK : Option Addr) (gK oK cK : Nat) (KS : List Int) (h : Rk w q s) (hl : s.l.length ≤ 1000) (hs : ∀ f ∈ s.l, f.S.length + f.T.length ≤ 1073741824) (hK : RdS encI 1 w aK gK oK KS) (hKl : KS.length ≤ 1073741824) (hKb : KS ≠ [] → ¬ s.Blk q gK) :
    Calls Try.prog 51 #[.pointer (some ⟨q, 0, none⟩), .slice aK KS.length cK] w fun e w' => e = .returned (.tuple #[]) ∧ ∃ s', Rk w' q s' ∧ s'.abs = bootD KS s.abs ∧ (∀ g, s'.Blk q g → s.Blk q g ∨ w.heap.size ≤ g) ∧ Keeps (s.Blk q) w w' := by
  have h0 : BootAt w w q s s KS 0 0 := ⟨h, rfl, rfl, rfl, by simp, fun g hg => Or.inl hg, Keeps.refl _ _⟩
  have HS0 := hid h0
  clear h h0
  go_enter Try.func51, Try.ntmps51
  go_wp2_with fail
  go_loopw [4, 5] (fun s4 s5 wr => ∃ (i k : Nat) (s1 : RkS), i ≤ s.l.length ∧ k ≤ i ∧ s4 = .int .i64 k ∧ s5 = .int .i64 i ∧ BootAt w wr q s s1 KS i k) (fun _ s5 _ => s.l.length - (intOf s5).toNat)
  case atStart => exact ⟨0, 0, s, Nat.zero_le _, Nat.le_refl _, rfl, rfl, HS0.out⟩
  case round =>
    obtain ⟨i, k, s1, hi, hki, rfl, rfl, h1⟩ := hrel
    clear HS0
    by_cases hlt : i < s.l.length
    · have hlt1 : i < s1.l.length := by rw [h1.len]; exact hlt
      obtain ⟨x, hget⟩ : ∃ x, s1.l[i]? = some x := ⟨s1.l[i], by simp [hlt1]⟩
      clear hlt1
      obtain ⟨gL, cL, hv, hx, hgq, hglt⟩ := h1.rk.view hget
      rw [h1.len] at hv hx
      have HV := hid hv
      have HGET := hid hget
      have hmem := List.mem_of_getElem? hget
      have hsx : x.S.length + x.T.length ≤ 1073741824 := hs x (by
        have h0 : x ∈ s1.l.drop i := by
          rw [List.drop_eq_getElem_cons (by rw [h1.len]; exact hlt)]
          have := (List.getElem?_eq_some_iff.1 hget).2
          rw [this]
          exact List.mem_cons_self
        rw [h1.drop] at h0
        exact List.mem_of_mem_drop h0)
      have HEC := hid (fun W (hW : Below wr.heap.size wr W) => (h1.rk.below hW).elemC hget hv)
      have HOKX := hid (h1.rk.ok x hmem)
      have HKP := hid (hK.keeps h1.keeps hKb)
      have HOKW := hid (fun W (hW : Below wr.heap.size wr W) => (h1.rk.ok x hmem).below hW)
      have HH := hid h1
      obtain ⟨d0, f0, f1, f2, z1, z2⟩ := HEC.out wr (Below.refl _ _)
      clear hget hv h1 hmem hs hK
      generalize s.l.length = nl at *
      by_cases hT : x.T = []
      · have hTl : x.T.length = 0 := by rw [hT]; rfl
        have hTl' : ¬ (0 : Int) < (x.T.length : Int) := by omega
        have hm : x.T.length ≤ x.T.length := Nat.le_refl _
        have HST := hid (fun (bs : List UInt8) (r : RL) (hbs : bs = x.S ++ x.T.take x.T.length) => show bootR (KS.drop k) (x.out :: r) = (x.name, bs, []) :: bootR (KS.drop k) r by
          rw [bootR_nilT _ _ _ (show x.out.2.2 = [] from hT), hbs, hT]
          simp [RF.out])
        have HTL := hid hTl
        clear hT hTl
        obtain ⟨bs, hbs⟩ : ∃ bs, bs = x.S ++ x.T.take (x.T.length) := ⟨_, rfl⟩
        have HBS := hid hbs
        have hmc : x.T.length ≤ x.cT := Nat.le_trans hm HOKX.out.tc
        have hcut : ∀ W, (Instr.slice 22 (.slice x.aT x.T.length x.cT) none (some (.int .i64 (x.T.length : Int))) none).run Try.prog W = .ok (.slice x.aT x.T.length x.cT) W := runCutB x.aT x.T.length x.cT (x.T.length) (x.T.length : Int) (by omega) hmc
        clear hbs
        go_wp2_with fail
        refine wp_region_T (fun W => Below wr.heap.size wr W) 28 (by kernel_rfl) ?_
        have hC0 : (fun W => Below wr.heap.size wr W) wr.drew := ((Ext.refl wr).drew).below
        have hC1 : (fun W => Below wr.heap.size wr W) (wr.drew.alloc (.cells #[] 5)) := hC0.trans (((Ext.refl wr.drew).alloc _).below.mono (by simp))
        clear d0 f0 f1 f2 z1 z2
        refine takeT (i := 0) (v := ?_) rfl (by kernel_rfl) (by kernel_rfl) (by kernel_rfl) (by kernel_rfl) (fun _ _ _ h => h) (by assumption) (Or.inl ⟨?_, ?_⟩) (fun K hK => ?_)
        rotate_left
        · rfl
        · (intro W hW; (obtain ⟨d0, f0, f1, f2, _, _⟩ := HEC.out W hW); go_simp; first | done | with_reducible rfl)
        (try go_simp)
        refine hK _ _ ?_
        clear hK K
        refine takeT (i := 1) (v := ?_) rfl (by kernel_rfl) (by kernel_rfl) (by kernel_rfl) (by kernel_rfl) (fun _ _ _ h => h) (by assumption) (Or.inl ⟨?_, ?_⟩) (fun K hK => ?_)
        rotate_left
        · rfl
        · (intro W hW; (obtain ⟨d0, f0, f1, f2, _, _⟩ := HEC.out W hW); go_simp; first | done | with_reducible rfl)
        (try go_simp)
        refine hK _ _ ?_
        clear hK K
        refine takeT (i := 2) (v := ?_) rfl (by kernel_rfl) (by kernel_rfl) (by kernel_rfl) (by kernel_rfl) (fun _ _ _ h => h) (by assumption) (Or.inl ⟨?_, ?_⟩) (fun K hK => ?_)
        rotate_left
        · rfl
        · (intro W hW; (obtain ⟨d0, f0, f1, f2, _, _⟩ := HEC.out W hW); go_simp; first | done | with_reducible rfl)
        (try go_simp)
        refine hK _ _ ?_
        clear hK K
        refine takeT (i := 3) (v := ?_) rfl (by kernel_rfl) (by kernel_rfl) (by kernel_rfl) (by kernel_rfl) (fun _ _ _ h => h) (by assumption) (Or.inl ⟨?_, ?_⟩) (fun K hK => ?_)
        rotate_left
        · rfl
        · (intro W hW; (obtain ⟨d0, f0, f1, f2, _, _⟩ := HEC.out W hW); go_simp; first | done | with_reducible rfl)
        (try go_simp)
        refine hK _ _ ?_
        clear hK K
        refine takeT (i := 4) (v := ?_) rfl (by kernel_rfl) (by kernel_rfl) (by kernel_rfl) (by kernel_rfl) (fun _ _ _ h => h) (by assumption) (Or.inl ⟨?_, ?_⟩) (fun K hK => ?_)
        rotate_left
        · rfl
        · (intro W hW; (obtain ⟨d0, f0, f1, f2, _, _⟩ := HEC.out W hW); go_simp; first | done | with_reducible rfl)
        (try go_simp)
        refine hK _ _ ?_
        clear hK K
        refine takeT (i := 6) (v := ?_) rfl (by kernel_rfl) (by kernel_rfl) (by kernel_rfl) (by kernel_rfl) (fun _ _ _ h => h) (by assumption) (Or.inl ⟨?_, ?_⟩) (fun K hK => ?_)
        rotate_left
        · rfl
        · (intro W hW; (obtain ⟨d0, f0, f1, f2, _, _⟩ := HEC.out W hW); go_simp; first | done | with_reducible rfl)
        (try go_simp)
        refine hK _ _ ?_
        clear hK K
        refine takeT (i := 7) (v := ?_) rfl (by kernel_rfl) (by kernel_rfl) (by kernel_rfl) (by kernel_rfl) (fun _ _ _ h => h) (by assumption) (Or.inl ⟨?_, ?_⟩) (fun K hK => ?_)
        rotate_left
        · rfl
        · (intro W hW; (obtain ⟨d0, f0, f1, f2, _, _⟩ := HEC.out W hW); go_simp; first | done | with_reducible rfl)
        (try go_simp)
        refine hK _ _ ?_
        clear hK K
        refine takeT (i := 8) (v := ?_) rfl (by kernel_rfl) (by kernel_rfl) (by kernel_rfl) (by kernel_rfl) (fun _ _ _ h => h) (by assumption) (Or.inl ⟨?_, ?_⟩) (fun K hK => ?_)
        rotate_left
        · rfl
        · (intro W hW; (obtain ⟨d0, f0, f1, f2, _, _⟩ := HEC.out W hW); go_simp; first | done | with_reducible rfl)
        (try go_simp)
        refine hK _ _ ?_
        clear hK K
        refine takeT (i := 9) (v := ?_) rfl (by kernel_rfl) (by kernel_rfl) (by kernel_rfl) (by kernel_rfl) (fun _ _ _ h => h) (by assumption) (Or.inl ⟨?_, ?_⟩) (fun K hK => ?_)
        rotate_left
        · rfl
        · (intro W hW; (obtain ⟨d0, f0, f1, f2, _, _⟩ := HEC.out W hW); go_simp; first | done | with_reducible rfl)
        (try go_simp)
        refine hK _ _ ?_
        clear hK K
        refine takeT (i := 10) (v := ?_) rfl (by kernel_rfl) (by kernel_rfl) (by kernel_rfl) (by kernel_rfl) (fun _ _ _ h => h) (by assumption) (Or.inl ⟨?_, ?_⟩) (fun K hK => ?_)
        rotate_left
        · rfl
        · (intro W hW; (obtain ⟨d0, f0, f1, f2, _, _⟩ := HEC.out W hW); go_simp; first | done | with_reducible rfl)
        (try go_simp)
        refine hK _ _ ?_
        clear hK K
        refine takeT (i := 11) (v := ?_) rfl (by kernel_rfl) (by kernel_rfl) (by kernel_rfl) (by kernel_rfl) (fun _ _ _ h => h) (by assumption) (Or.inl ⟨?_, ?_⟩) (fun K hK => ?_)
        rotate_left
        · rfl
        · (intro W hW; (obtain ⟨d0, f0, f1, f2, _, _⟩ := HEC.out W hW); go_simp; first | done | with_reducible rfl)
        (try go_simp)
        refine hK _ _ ?_
        clear hK K
        refine takeT (i := 12) (v := ?_) rfl (by kernel_rfl) (by kernel_rfl) (by kernel_rfl) (by kernel_rfl) (fun _ _ _ h => h) (by assumption) (Or.inl ⟨?_, ?_⟩) (fun K hK => ?_)
        rotate_left
        · rfl
        · (intro W hW; (obtain ⟨d0, f0, f1, f2, _, _⟩ := HEC.out W hW); go_simp; first | done | with_reducible rfl)
        (try go_simp)
        refine hK _ _ ?_
        clear hK K
        refine takeT (i := 13) (v := ?_) rfl (by kernel_rfl) (by kernel_rfl) (by kernel_rfl) (by kernel_rfl) (fun _ _ _ h => h) (by assumption) (Or.inl ⟨?_, ?_⟩) (fun K hK => ?_)
        rotate_left
        · rfl
        · (intro W hW; (obtain ⟨d0, f0, f1, f2, _, _⟩ := HEC.out W hW); go_simp; first | done | with_reducible rfl)
        (try go_simp)
        refine hK _ _ ?_
        clear hK K
        refine takeT (i := 15) (v := ?_) rfl (by kernel_rfl) (by kernel_rfl) (by kernel_rfl) (by kernel_rfl) (fun _ _ _ h => h) (by assumption) (Or.inl ⟨?_, ?_⟩) (fun K hK => ?_)
        rotate_left
        · rfl
        · (intro W hW; (obtain ⟨d0, f0, f1, f2, _, _⟩ := HEC.out W hW); go_simp; first | done | with_reducible rfl)
        (try go_simp)
        refine hK _ _ ?_
        clear hK K
        refine takeT (i := 16) (v := ?_) rfl (by kernel_rfl) (by kernel_rfl) (by kernel_rfl) (by kernel_rfl) (fun _ _ _ h => h) (by assumption) (Or.inl ⟨?_, ?_⟩) (fun K hK => ?_)
        rotate_left
        · rfl
        · (intro W hW; (obtain ⟨d0, f0, f1, f2, _, _⟩ := HEC.out W hW); go_simp; first | done | with_reducible rfl)
        (try go_simp)
        refine hK _ _ ?_
        clear hK K
        refine takeT (i := 17) (v := ?_) rfl (by kernel_rfl) (by kernel_rfl) (by kernel_rfl) (by kernel_rfl) (fun _ _ _ h => h) (by assumption) (Or.inl ⟨?_, ?_⟩) (fun K hK => ?_)
        rotate_left
        · rfl
        · (intro W hW; (obtain ⟨d0, f0, f1, f2, _, _⟩ := HEC.out W hW); go_simp; first | done | with_reducible rfl)
        (try go_simp)
        refine hK _ _ ?_
        clear hK K
        refine takeT (i := 18) (v := ?_) rfl (by kernel_rfl) (by kernel_rfl) (by kernel_rfl) (by kernel_rfl) (fun _ _ _ h => h) (by assumption) (Or.inl ⟨?_, ?_⟩) (fun K hK => ?_)
        rotate_left
        · rfl
        · (intro W hW; (obtain ⟨d0, f0, f1, f2, _, _⟩ := HEC.out W hW); go_simp; first | done | with_reducible rfl)
        (try go_simp)
        refine hK _ _ ?_
        clear hK K
        refine takeT (i := 19) (v := ?_) rfl (by kernel_rfl) (by kernel_rfl) (by kernel_rfl) (by kernel_rfl) (fun _ _ _ h => h) (by assumption) (Or.inl ⟨?_, ?_⟩) (fun K hK => ?_)
        rotate_left
        · rfl
        · (intro W hW; (obtain ⟨d0, f0, f1, f2, _, _⟩ := HEC.out W hW); go_simp; first | done | with_reducible rfl)
        (try go_simp)
        refine hK _ _ ?_
        clear hK K
        refine takeT (i := 20) (v := ?_) rfl (by kernel_rfl) (by kernel_rfl) (by kernel_rfl) (by kernel_rfl) (fun _ _ _ h => h) (by assumption) (Or.inl ⟨?_, ?_⟩) (fun K hK => ?_)
        rotate_left
        · rfl
        · (intro W hW; (obtain ⟨d0, f0, f1, f2, _, _⟩ := HEC.out W hW); go_simp; first | done | with_reducible rfl)
        (try go_simp)
        refine hK _ _ ?_
        clear hK K
        refine takeT (i := 21) (v := ?_) rfl (by kernel_rfl) (by kernel_rfl) (by kernel_rfl) (by kernel_rfl) (fun _ _ _ h => h) (by assumption) (Or.inl ⟨?_, ?_⟩) (fun K hK => ?_)
        rotate_left
        · rfl
        · (intro W hW; (obtain ⟨d0, f0, f1, f2, _, _⟩ := HEC.out W hW); go_simp; first | done | with_reducible rfl)
        (try go_simp)
        refine hK _ _ ?_
        clear hK K
        refine takeT (i := 22) (v := ?_) rfl (by kernel_rfl) (by kernel_rfl) (by kernel_rfl) (by kernel_rfl) (fun _ _ _ h => h) (by assumption) (Or.inl ⟨?_, ?_⟩) (fun K hK => ?_)
        rotate_left
        · rfl
        · (intro W hW; (obtain ⟨d0, f0, f1, f2, _, _⟩ := HEC.out W hW); go_simp; first | done | with_reducible rfl)
        (try go_simp)
        refine hK _ _ ?_
        clear hK K
        refine takeT (i := 23) (v := ?_) rfl (by kernel_rfl) (by kernel_rfl) (by kernel_rfl) (by kernel_rfl) (fun _ _ _ h => h) (by assumption) (Or.inl ⟨?_, ?_⟩) (fun K hK => ?_)
        rotate_left
        · rfl
        · (intro W hW; (obtain ⟨d0, f0, f1, f2, _, _⟩ := HEC.out W hW); go_simp; first | done | with_reducible rfl)
        (try go_simp)
        refine hK _ _ ?_
        clear hK K
        refine takeT (i := 24) (v := ?_) rfl (by kernel_rfl) (by kernel_rfl) (by kernel_rfl) (by kernel_rfl) (fun _ _ _ h => h) (by assumption) (Or.inl ⟨?_, ?_⟩) (fun K hK => ?_)
        rotate_left
        · rfl
        · (intro W hW; (obtain ⟨d0, f0, f1, f2, _, _⟩ := HEC.out W hW); go_simp; first | done | with_reducible rfl)
        (try go_simp)
        refine hK _ _ ?_
        clear hK K
        refine callT (k := 5) (by kernel_rfl) rfl ?_ (fun K hK => ?_)
        · rfl
        go_simp
        refine hK _ _ (by assumption) ?_
        clear hK K
        refine callT (k := 14) (by kernel_rfl) rfl ?_ (fun K hK => ?_)
        · rfl
        have hown0 : OwnB (wr.drew.alloc (.cells #[] 5)) (.slice (some ⟨wr.heap.size, 0, none⟩) 0 0) [] :=
          Or.inr ⟨wr.heap.size, 0, #[], rfl, heap_alloc_new wr.drew _, Nat.le_refl _, by unfold maxLen; omega, Nat.le_refl _, rfl⟩
        have hsS := Src.ofRd (cap := x.cS) ((HOKW.out _ hC1).s)
        refine wp_append_B _ _ rfl _ [] x.S rfl hown0 _ rfl hsS (by simp; omega) ?_
        intro v5 w5 hown5 hg5 hat5
        rw [List.nil_append] at hown5
        have hf5 : ∀ g, v5.ownBlock = some g → wr.heap.size ≤ g := fun g hg => by
          rcases hat5 with h | h
          · rw [h] at hg; cases hg; exact Nat.le_refl _
          · rw [h] at hg; simp at hg; omega
        have hC2 : (fun W => Below wr.heap.size wr W) w5 := Below.grown hC1 hg5 (by simp) (fun g hg => by cases hg; exact Nat.le_refl _)
        clear hC1 hC0 hown0 hsS hg5 hat5
        refine hK _ _ hC2 ?_
        clear hK K
        refine callT (k := 25) (by kernel_rfl) rfl ?_ (fun K hK => ?_)
        · rfl
        have hltk : (x.T.take (x.T.length)).length = x.T.length := by rw [List.length_take, Nat.min_eq_left hm]
        have hsP := Src.ofRd (cap := x.cT) (((HOKW.out _ hC2).t).take (x.T.length))
        rw [hltk] at hsP
        refine wp_append_B _ _ rfl _ x.S (x.T.take (x.T.length)) rfl hown5 _ rfl (by rw [hltk]; exact hsP) (by rw [hltk]; omega) ?_
        intro v6 w6 hown6 hg6 hat6
        have hf6 : ∀ g, v6.ownBlock = some g → wr.heap.size ≤ g := fun g hg => by
          rcases hat6 with h | h
          · rw [h] at hg; exact hf5 g hg
          · rw [h] at hg; simp at hg; have := Below.size hC2; omega
        have hC3 : (fun W => Below wr.heap.size wr W) w6 := Below.grown hC2 hg6 (Below.size hC2) (fun g hg => hf5 g hg)
        rw [← HBS.out] at hown6
        obtain ⟨aV, gV, oV, cV, rfl, hcV, hrV, _⟩ := hown6.rd
        have hNX := HH.out.next HGET.out HV.out (HH.out.blk gL (Or.inr (Or.inl (by rw [HV.out]; rfl)))) hC3 hrV hcV (fun hn => hf6 gV (by rw [hrV.some hn]; rfl)) (k' := k) (fun r => by exact HST.out bs r HBS.out)
        obtain ⟨hr7, hn7⟩ := hNX
        have HR7 := hid hr7
        have HN7 := hid hn7
        clear hC2 hown5 hsP hg6 hat6 hf5 hf6 hown6 hrV hltk hr7 hn7
        refine hK _ _ hC3 ?_
        clear hK K
        obtain ⟨d0, f0, f1, f2, z1, z2⟩ := HEC.out w6 hC3
        refine takeT (i := 26) (v := ?_) rfl (by kernel_rfl) (by kernel_rfl) (by kernel_rfl) (by kernel_rfl) (fun _ _ _ h => h) (by assumption) (Or.inl ⟨?_, ?_⟩) (fun K hK => ?_)
        rotate_left
        · rfl
        · (intro W hW; (obtain ⟨d0, f0, f1, f2, _, _⟩ := HEC.out W hW); go_simp; first | done | with_reducible rfl)
        (try go_simp)
        refine hK _ _ ?_
        clear hK K
        refine takeT (i := 27) (v := ?_) rfl (by kernel_rfl) (by kernel_rfl) (by kernel_rfl) (by kernel_rfl) (fun _ _ _ h => h) (by assumption) (Or.inl ⟨?_, ?_⟩) (fun K hK => ?_)
        rotate_left
        · rfl
        · (intro W hW; (obtain ⟨d0, f0, f1, f2, _, _⟩ := HEC.out W hW); go_simp; first | done | with_reducible rfl)
        (try go_simp)
        refine hK _ _ ?_
        clear hK K
        refine lastT (by kernel_rfl) rfl ?_ (fun K hK => ?_)
        · rfl
        go_simp
        refine hK _ _ ?_
        clear hK K
        refine doneT (by kernel_rfl) ?_
        clear d0 f0 f1 f2 z1 z2 hC3 hcut
        obtain ⟨w7, hw7⟩ : ∃ w7, w7 = w6.setCell ⟨gL, i * 3 + 1, none⟩ (.slice aV bs.length cV) := ⟨_, rfl⟩
        rw [← hw7] at HR7 HN7 ⊢
        obtain ⟨d0, f0, f1, f2, z1, z2⟩ := HR7.out.elemC (set_get HGET.out) HV.out
        clear hw7
        go_wp2_with fail
        go_roundw
        case rel => exact ⟨i + 1, k, _, by omega, by omega, rfl, by go_num, HN7.out⟩
        case measure => simp [intOf]; omega
      · have hTl : 0 < x.T.length := List.length_pos_iff.2 hT
        have hTl' : (0 : Int) < (x.T.length : Int) := by omega
        by_cases hk : k < KS.length
        · have hk2 : (k : Int) < (KS.length : Int) := by omega
          obtain ⟨y, hy⟩ : ∃ y, KS[k]? = some y := ⟨KS[k], by simp [hk]⟩
          have hdr : KS.drop k = y :: KS.drop (k + 1) := by
            rw [List.drop_eq_getElem_cons hk]
            have := (List.getElem?_eq_some_iff.1 hy).2
            rw [this]
          have g0 := RdI HKP.out hy
          have hix := indexI HKP.out hk cK
          have HST0 := hid (fun (m : Nat) (hme : keptT y x.T.length = m) (bs : List UInt8) (r : RL) (hbs : bs = x.S ++ x.T.take m) => show bootR (KS.drop k) (x.out :: r) = (x.name, bs, []) :: bootR (KS.drop (k + 1)) r by
            rw [hdr, bootR_cut _ _ _ _ (show x.out.2.2 ≠ [] from hT), hbs, show x.out.2.2.length = x.T.length from rfl, hme]
            rfl)
          clear hT hdr hy
          obtain ⟨m, hme⟩ : ∃ m, m = keptT y x.T.length := ⟨_, rfl⟩
          have HST := hid (HST0.out m hme.symm)
          have hm : m ≤ x.T.length := by rw [hme]; unfold keptT; omega
          have hcm : max 0 (min y (x.T.length : Int)) = (m : Int) := by rw [hme]; unfold keptT; omega
          clear hme HST0
          obtain ⟨bs, hbs⟩ : ∃ bs, bs = x.S ++ x.T.take (m) := ⟨_, rfl⟩
          have HBS := hid hbs
          have hmc : m ≤ x.cT := Nat.le_trans hm HOKX.out.tc
          have hcut : ∀ W, (Instr.slice 22 (.slice x.aT x.T.length x.cT) none (some (.int .i64 (m : Int))) none).run Try.prog W = .ok (.slice x.aT m x.cT) W := runCutB x.aT x.T.length x.cT (m) (m : Int) (by omega) hmc
          clear hbs
          go_wp2_with fail
          refine wp_region_T (fun W => Below wr.heap.size wr W) 28 (by kernel_rfl) ?_
          have hC0 : (fun W => Below wr.heap.size wr W) wr.drew := ((Ext.refl wr).drew).below
          have hC1 : (fun W => Below wr.heap.size wr W) (wr.drew.alloc (.cells #[] 5)) := hC0.trans (((Ext.refl wr.drew).alloc _).below.mono (by simp))
          clear d0 f0 f1 f2 z1 z2
          refine takeT (i := 0) (v := ?_) rfl (by kernel_rfl) (by kernel_rfl) (by kernel_rfl) (by kernel_rfl) (fun _ _ _ h => h) (by assumption) (Or.inl ⟨?_, ?_⟩) (fun K hK => ?_)
          rotate_left
          · rfl
          · (intro W hW; (obtain ⟨d0, f0, f1, f2, _, _⟩ := HEC.out W hW); go_simp; first | done | with_reducible rfl)
          (try go_simp)
          refine hK _ _ ?_
          clear hK K
          refine takeT (i := 1) (v := ?_) rfl (by kernel_rfl) (by kernel_rfl) (by kernel_rfl) (by kernel_rfl) (fun _ _ _ h => h) (by assumption) (Or.inl ⟨?_, ?_⟩) (fun K hK => ?_)
          rotate_left
          · rfl
          · (intro W hW; (obtain ⟨d0, f0, f1, f2, _, _⟩ := HEC.out W hW); go_simp; first | done | with_reducible rfl)
          (try go_simp)
          refine hK _ _ ?_
          clear hK K
          refine takeT (i := 2) (v := ?_) rfl (by kernel_rfl) (by kernel_rfl) (by kernel_rfl) (by kernel_rfl) (fun _ _ _ h => h) (by assumption) (Or.inl ⟨?_, ?_⟩) (fun K hK => ?_)
          rotate_left
          · rfl
          · (intro W hW; (obtain ⟨d0, f0, f1, f2, _, _⟩ := HEC.out W hW); go_simp; first | done | with_reducible rfl)
          (try go_simp)
          refine hK _ _ ?_
          clear hK K
          refine takeT (i := 3) (v := ?_) rfl (by kernel_rfl) (by kernel_rfl) (by kernel_rfl) (by kernel_rfl) (fun _ _ _ h => h) (by assumption) (Or.inl ⟨?_, ?_⟩) (fun K hK => ?_)
          rotate_left
          · rfl
          · (intro W hW; (obtain ⟨d0, f0, f1, f2, _, _⟩ := HEC.out W hW); go_simp; first | done | with_reducible rfl)
          (try go_simp)
          refine hK _ _ ?_
          clear hK K
          refine takeT (i := 4) (v := ?_) rfl (by kernel_rfl) (by kernel_rfl) (by kernel_rfl) (by kernel_rfl) (fun _ _ _ h => h) (by assumption) (Or.inl ⟨?_, ?_⟩) (fun K hK => ?_)
          rotate_left
          · rfl
          · (intro W hW; (obtain ⟨d0, f0, f1, f2, _, _⟩ := HEC.out W hW); go_simp; first | done | with_reducible rfl)
          (try go_simp)
          refine hK _ _ ?_
          clear hK K
          refine takeT (i := 6) (v := ?_) rfl (by kernel_rfl) (by kernel_rfl) (by kernel_rfl) (by kernel_rfl) (fun _ _ _ h => h) (by assumption) (Or.inl ⟨?_, ?_⟩) (fun K hK => ?_)
          rotate_left
          · rfl
          · (intro W hW; (obtain ⟨d0, f0, f1, f2, _, _⟩ := HEC.out W hW); go_simp; first | done | with_reducible rfl)
          (try go_simp)
          refine hK _ _ ?_
          clear hK K
          refine takeT (i := 7) (v := ?_) rfl (by kernel_rfl) (by kernel_rfl) (by kernel_rfl) (by kernel_rfl) (fun _ _ _ h => h) (by assumption) (Or.inl ⟨?_, ?_⟩) (fun K hK => ?_)
          rotate_left
          · rfl
          · (intro W hW; (obtain ⟨d0, f0, f1, f2, _, _⟩ := HEC.out W hW); go_simp; first | done | with_reducible rfl)
          (try go_simp)
          refine hK _ _ ?_
          clear hK K
          refine takeT (i := 8) (v := ?_) rfl (by kernel_rfl) (by kernel_rfl) (by kernel_rfl) (by kernel_rfl) (fun _ _ _ h => h) (by assumption) (Or.inl ⟨?_, ?_⟩) (fun K hK => ?_)
          rotate_left
          · rfl
          · (intro W hW; (obtain ⟨d0, f0, f1, f2, _, _⟩ := HEC.out W hW); go_simp; first | done | with_reducible rfl)
          (try go_simp)
          refine hK _ _ ?_
          clear hK K
          refine takeT (i := 9) (v := ?_) rfl (by kernel_rfl) (by kernel_rfl) (by kernel_rfl) (by kernel_rfl) (fun _ _ _ h => h) (by assumption) (Or.inl ⟨?_, ?_⟩) (fun K hK => ?_)
          rotate_left
          · rfl
          · (intro W hW; (obtain ⟨d0, f0, f1, f2, _, _⟩ := HEC.out W hW); go_simp; first | done | with_reducible rfl)
          (try go_simp)
          refine hK _ _ ?_
          clear hK K
          refine takeT (i := 10) (v := ?_) rfl (by kernel_rfl) (by kernel_rfl) (by kernel_rfl) (by kernel_rfl) (fun _ _ _ h => h) (by assumption) (Or.inl ⟨?_, ?_⟩) (fun K hK => ?_)
          rotate_left
          · rfl
          · (intro W hW; (obtain ⟨d0, f0, f1, f2, _, _⟩ := HEC.out W hW); go_simp; first | done | with_reducible rfl)
          (try go_simp)
          refine hK _ _ ?_
          clear hK K
          refine takeT (i := 11) (v := ?_) rfl (by kernel_rfl) (by kernel_rfl) (by kernel_rfl) (by kernel_rfl) (fun _ _ _ h => h) (by assumption) (Or.inl ⟨?_, ?_⟩) (fun K hK => ?_)
          rotate_left
          · rfl
          · (intro W hW; (obtain ⟨d0, f0, f1, f2, _, _⟩ := HEC.out W hW); go_simp; first | done | with_reducible rfl)
          (try go_simp)
          refine hK _ _ ?_
          clear hK K
          refine takeT (i := 12) (v := ?_) rfl (by kernel_rfl) (by kernel_rfl) (by kernel_rfl) (by kernel_rfl) (fun _ _ _ h => h) (by assumption) (Or.inl ⟨?_, ?_⟩) (fun K hK => ?_)
          rotate_left
          · rfl
          · (intro W hW; (obtain ⟨d0, f0, f1, f2, _, _⟩ := HEC.out W hW); go_simp; first | done | with_reducible rfl)
          (try go_simp)
          refine hK _ _ ?_
          clear hK K
          refine takeT (i := 13) (v := ?_) rfl (by kernel_rfl) (by kernel_rfl) (by kernel_rfl) (by kernel_rfl) (fun _ _ _ h => h) (by assumption) (Or.inl ⟨?_, ?_⟩) (fun K hK => ?_)
          rotate_left
          · rfl
          · (intro W hW; (obtain ⟨d0, f0, f1, f2, _, _⟩ := HEC.out W hW); go_simp; first | done | with_reducible rfl)
          (try go_simp)
          refine hK _ _ ?_
          clear hK K
          refine takeT (i := 15) (v := ?_) rfl (by kernel_rfl) (by kernel_rfl) (by kernel_rfl) (by kernel_rfl) (fun _ _ _ h => h) (by assumption) (Or.inl ⟨?_, ?_⟩) (fun K hK => ?_)
          rotate_left
          · rfl
          · (intro W hW; (obtain ⟨d0, f0, f1, f2, _, _⟩ := HEC.out W hW); go_simp; first | done | with_reducible rfl)
          (try go_simp)
          refine hK _ _ ?_
          clear hK K
          refine takeT (i := 16) (v := ?_) rfl (by kernel_rfl) (by kernel_rfl) (by kernel_rfl) (by kernel_rfl) (fun _ _ _ h => h) (by assumption) (Or.inl ⟨?_, ?_⟩) (fun K hK => ?_)
          rotate_left
          · rfl
          · (intro W hW; (obtain ⟨d0, f0, f1, f2, _, _⟩ := HEC.out W hW); go_simp; first | done | with_reducible rfl)
          (try go_simp)
          refine hK _ _ ?_
          clear hK K
          refine takeT (i := 17) (v := ?_) rfl (by kernel_rfl) (by kernel_rfl) (by kernel_rfl) (by kernel_rfl) (fun _ _ _ h => h) (by assumption) (Or.inl ⟨?_, ?_⟩) (fun K hK => ?_)
          rotate_left
          · rfl
          · (intro W hW; (obtain ⟨d0, f0, f1, f2, _, _⟩ := HEC.out W hW); go_simp; first | done | with_reducible rfl)
          (try go_simp)
          refine hK _ _ ?_
          clear hK K
          refine takeT (i := 18) (v := ?_) rfl (by kernel_rfl) (by kernel_rfl) (by kernel_rfl) (by kernel_rfl) (fun _ _ _ h => h) (by assumption) (Or.inl ⟨?_, ?_⟩) (fun K hK => ?_)
          rotate_left
          · rfl
          · (intro W hW; (obtain ⟨d0, f0, f1, f2, _, _⟩ := HEC.out W hW); go_simp; first | done | with_reducible rfl)
          (try go_simp)
          refine hK _ _ ?_
          clear hK K
          refine takeT (i := 19) (v := ?_) rfl (by kernel_rfl) (by kernel_rfl) (by kernel_rfl) (by kernel_rfl) (fun _ _ _ h => h) (by assumption) (Or.inl ⟨?_, ?_⟩) (fun K hK => ?_)
          rotate_left
          · rfl
          · (intro W hW; (obtain ⟨d0, f0, f1, f2, _, _⟩ := HEC.out W hW); go_simp; first | done | with_reducible rfl)
          (try go_simp)
          refine hK _ _ ?_
          clear hK K
          refine takeT (i := 20) (v := ?_) rfl (by kernel_rfl) (by kernel_rfl) (by kernel_rfl) (by kernel_rfl) (fun _ _ _ h => h) (by assumption) (Or.inl ⟨?_, ?_⟩) (fun K hK => ?_)
          rotate_left
          · rfl
          · (intro W hW; (obtain ⟨d0, f0, f1, f2, _, _⟩ := HEC.out W hW); go_simp; first | done | with_reducible rfl)
          (try go_simp)
          refine hK _ _ ?_
          clear hK K
          refine takeT (i := 21) (v := ?_) rfl (by kernel_rfl) (by kernel_rfl) (by kernel_rfl) (by kernel_rfl) (fun _ _ _ h => h) (by assumption) (Or.inl ⟨?_, ?_⟩) (fun K hK => ?_)
          rotate_left
          · rfl
          · (intro W hW; (obtain ⟨d0, f0, f1, f2, _, _⟩ := HEC.out W hW); go_simp; first | done | with_reducible rfl)
          (try go_simp)
          refine hK _ _ ?_
          clear hK K
          refine takeT (i := 22) (v := ?_) rfl (by kernel_rfl) (by kernel_rfl) (by kernel_rfl) (by kernel_rfl) (fun _ _ _ h => h) (by assumption) (Or.inl ⟨?_, ?_⟩) (fun K hK => ?_)
          rotate_left
          · rfl
          · (intro W hW; (obtain ⟨d0, f0, f1, f2, _, _⟩ := HEC.out W hW); go_simp; first | done | with_reducible rfl)
          (try go_simp)
          refine hK _ _ ?_
          clear hK K
          refine takeT (i := 23) (v := ?_) rfl (by kernel_rfl) (by kernel_rfl) (by kernel_rfl) (by kernel_rfl) (fun _ _ _ h => h) (by assumption) (Or.inl ⟨?_, ?_⟩) (fun K hK => ?_)
          rotate_left
          · rfl
          · (intro W hW; (obtain ⟨d0, f0, f1, f2, _, _⟩ := HEC.out W hW); go_simp; first | done | with_reducible rfl)
          (try go_simp)
          refine hK _ _ ?_
          clear hK K
          refine takeT (i := 24) (v := ?_) rfl (by kernel_rfl) (by kernel_rfl) (by kernel_rfl) (by kernel_rfl) (fun _ _ _ h => h) (by assumption) (Or.inl ⟨?_, ?_⟩) (fun K hK => ?_)
          rotate_left
          · rfl
          · (intro W hW; (obtain ⟨d0, f0, f1, f2, _, _⟩ := HEC.out W hW); go_simp; first | done | with_reducible rfl)
          (try go_simp)
          refine hK _ _ ?_
          clear hK K
          refine callT (k := 5) (by kernel_rfl) rfl ?_ (fun K hK => ?_)
          · rfl
          go_simp
          refine hK _ _ (by assumption) ?_
          clear hK K
          refine callT (k := 14) (by kernel_rfl) rfl ?_ (fun K hK => ?_)
          · rfl
          have hown0 : OwnB (wr.drew.alloc (.cells #[] 5)) (.slice (some ⟨wr.heap.size, 0, none⟩) 0 0) [] :=
            Or.inr ⟨wr.heap.size, 0, #[], rfl, heap_alloc_new wr.drew _, Nat.le_refl _, by unfold maxLen; omega, Nat.le_refl _, rfl⟩
          have hsS := Src.ofRd (cap := x.cS) ((HOKW.out _ hC1).s)
          refine wp_append_B _ _ rfl _ [] x.S rfl hown0 _ rfl hsS (by simp; omega) ?_
          intro v5 w5 hown5 hg5 hat5
          rw [List.nil_append] at hown5
          have hf5 : ∀ g, v5.ownBlock = some g → wr.heap.size ≤ g := fun g hg => by
            rcases hat5 with h | h
            · rw [h] at hg; cases hg; exact Nat.le_refl _
            · rw [h] at hg; simp at hg; omega
          have hC2 : (fun W => Below wr.heap.size wr W) w5 := Below.grown hC1 hg5 (by simp) (fun g hg => by cases hg; exact Nat.le_refl _)
          clear hC1 hC0 hown0 hsS hg5 hat5
          refine hK _ _ hC2 ?_
          clear hK K
          refine callT (k := 25) (by kernel_rfl) rfl ?_ (fun K hK => ?_)
          · rfl
          have hltk : (x.T.take (m)).length = m := by rw [List.length_take, Nat.min_eq_left hm]
          have hsP := Src.ofRd (cap := x.cT) (((HOKW.out _ hC2).t).take (m))
          rw [hltk] at hsP
          refine wp_append_B _ _ rfl _ x.S (x.T.take (m)) rfl hown5 _ rfl (by rw [hltk]; exact hsP) (by rw [hltk]; omega) ?_
          intro v6 w6 hown6 hg6 hat6
          have hf6 : ∀ g, v6.ownBlock = some g → wr.heap.size ≤ g := fun g hg => by
            rcases hat6 with h | h
            · rw [h] at hg; exact hf5 g hg
            · rw [h] at hg; simp at hg; have := Below.size hC2; omega
          have hC3 : (fun W => Below wr.heap.size wr W) w6 := Below.grown hC2 hg6 (Below.size hC2) (fun g hg => hf5 g hg)
          rw [← HBS.out] at hown6
          obtain ⟨aV, gV, oV, cV, rfl, hcV, hrV, _⟩ := hown6.rd
          have hNX := HH.out.next HGET.out HV.out (HH.out.blk gL (Or.inr (Or.inl (by rw [HV.out]; rfl)))) hC3 hrV hcV (fun hn => hf6 gV (by rw [hrV.some hn]; rfl)) (k' := (k + 1)) (fun r => by exact HST.out bs r HBS.out)
          obtain ⟨hr7, hn7⟩ := hNX
          have HR7 := hid hr7
          have HN7 := hid hn7
          clear hC2 hown5 hsP hg6 hat6 hf5 hf6 hown6 hrV hltk hr7 hn7
          refine hK _ _ hC3 ?_
          clear hK K
          obtain ⟨d0, f0, f1, f2, z1, z2⟩ := HEC.out w6 hC3
          refine takeT (i := 26) (v := ?_) rfl (by kernel_rfl) (by kernel_rfl) (by kernel_rfl) (by kernel_rfl) (fun _ _ _ h => h) (by assumption) (Or.inl ⟨?_, ?_⟩) (fun K hK => ?_)
          rotate_left
          · rfl
          · (intro W hW; (obtain ⟨d0, f0, f1, f2, _, _⟩ := HEC.out W hW); go_simp; first | done | with_reducible rfl)
          (try go_simp)
          refine hK _ _ ?_
          clear hK K
          refine takeT (i := 27) (v := ?_) rfl (by kernel_rfl) (by kernel_rfl) (by kernel_rfl) (by kernel_rfl) (fun _ _ _ h => h) (by assumption) (Or.inl ⟨?_, ?_⟩) (fun K hK => ?_)
          rotate_left
          · rfl
          · (intro W hW; (obtain ⟨d0, f0, f1, f2, _, _⟩ := HEC.out W hW); go_simp; first | done | with_reducible rfl)
          (try go_simp)
          refine hK _ _ ?_
          clear hK K
          refine lastT (by kernel_rfl) rfl ?_ (fun K hK => ?_)
          · rfl
          go_simp
          refine hK _ _ ?_
          clear hK K
          refine doneT (by kernel_rfl) ?_
          clear d0 f0 f1 f2 z1 z2 hC3 hcut
          obtain ⟨w7, hw7⟩ : ∃ w7, w7 = w6.setCell ⟨gL, i * 3 + 1, none⟩ (.slice aV bs.length cV) := ⟨_, rfl⟩
          rw [← hw7] at HR7 HN7 ⊢
          obtain ⟨d0, f0, f1, f2, z1, z2⟩ := HR7.out.elemC (set_get HGET.out) HV.out
          clear hw7
          go_wp2_with fail
          go_roundw
          case rel => exact ⟨i + 1, (k + 1), _, by omega, by omega, by go_num, by go_num, HN7.out⟩
          case measure => simp [intOf]; omega
        · have hk' : ¬ (k : Int) < (KS.length : Int) := by omega
          have hm : x.T.length ≤ x.T.length := Nat.le_refl _
          have HST := hid (fun (bs : List UInt8) (r : RL) (hbs : bs = x.S ++ x.T.take x.T.length) => show bootR (KS.drop k) (x.out :: r) = (x.name, bs, []) :: bootR (KS.drop (k + 1)) r by
            rw [List.drop_of_length_le (by omega), List.drop_of_length_le (by omega), bootR_all _ _ (show x.out.2.2 ≠ [] from hT), hbs, List.take_length]
            rfl)
          clear hT hk
          obtain ⟨bs, hbs⟩ : ∃ bs, bs = x.S ++ x.T.take (x.T.length) := ⟨_, rfl⟩
          have HBS := hid hbs
          have hmc : x.T.length ≤ x.cT := Nat.le_trans hm HOKX.out.tc
          have hcut : ∀ W, (Instr.slice 22 (.slice x.aT x.T.length x.cT) none (some (.int .i64 (x.T.length : Int))) none).run Try.prog W = .ok (.slice x.aT x.T.length x.cT) W := runCutB x.aT x.T.length x.cT (x.T.length) (x.T.length : Int) (by omega) hmc
          clear hbs
          go_wp2_with fail
          refine wp_region_T (fun W => Below wr.heap.size wr W) 28 (by kernel_rfl) ?_
          have hC0 : (fun W => Below wr.heap.size wr W) wr.drew := ((Ext.refl wr).drew).below
          have hC1 : (fun W => Below wr.heap.size wr W) (wr.drew.alloc (.cells #[] 5)) := hC0.trans (((Ext.refl wr.drew).alloc _).below.mono (by simp))
          clear d0 f0 f1 f2 z1 z2
          refine takeT (i := 0) (v := ?_) rfl (by kernel_rfl) (by kernel_rfl) (by kernel_rfl) (by kernel_rfl) (fun _ _ _ h => h) (by assumption) (Or.inl ⟨?_, ?_⟩) (fun K hK => ?_)
          rotate_left
          · rfl
          · (intro W hW; (obtain ⟨d0, f0, f1, f2, _, _⟩ := HEC.out W hW); go_simp; first | done | with_reducible rfl)
          (try go_simp)
          refine hK _ _ ?_
          clear hK K
          refine takeT (i := 1) (v := ?_) rfl (by kernel_rfl) (by kernel_rfl) (by kernel_rfl) (by kernel_rfl) (fun _ _ _ h => h) (by assumption) (Or.inl ⟨?_, ?_⟩) (fun K hK => ?_)
          rotate_left
          · rfl
          · (intro W hW; (obtain ⟨d0, f0, f1, f2, _, _⟩ := HEC.out W hW); go_simp; first | done | with_reducible rfl)
          (try go_simp)
          refine hK _ _ ?_
          clear hK K
          refine takeT (i := 2) (v := ?_) rfl (by kernel_rfl) (by kernel_rfl) (by kernel_rfl) (by kernel_rfl) (fun _ _ _ h => h) (by assumption) (Or.inl ⟨?_, ?_⟩) (fun K hK => ?_)
          rotate_left
          · rfl
          · (intro W hW; (obtain ⟨d0, f0, f1, f2, _, _⟩ := HEC.out W hW); go_simp; first | done | with_reducible rfl)
          (try go_simp)
          refine hK _ _ ?_
          clear hK K
          refine takeT (i := 3) (v := ?_) rfl (by kernel_rfl) (by kernel_rfl) (by kernel_rfl) (by kernel_rfl) (fun _ _ _ h => h) (by assumption) (Or.inl ⟨?_, ?_⟩) (fun K hK => ?_)
          rotate_left
          · rfl
          · (intro W hW; (obtain ⟨d0, f0, f1, f2, _, _⟩ := HEC.out W hW); go_simp; first | done | with_reducible rfl)
          (try go_simp)
          refine hK _ _ ?_
          clear hK K
          refine takeT (i := 4) (v := ?_) rfl (by kernel_rfl) (by kernel_rfl) (by kernel_rfl) (by kernel_rfl) (fun _ _ _ h => h) (by assumption) (Or.inl ⟨?_, ?_⟩) (fun K hK => ?_)
          rotate_left
          · rfl
          · (intro W hW; (obtain ⟨d0, f0, f1, f2, _, _⟩ := HEC.out W hW); go_simp; first | done | with_reducible rfl)
          (try go_simp)
          refine hK _ _ ?_
          clear hK K
          refine takeT (i := 6) (v := ?_) rfl (by kernel_rfl) (by kernel_rfl) (by kernel_rfl) (by kernel_rfl) (fun _ _ _ h => h) (by assumption) (Or.inl ⟨?_, ?_⟩) (fun K hK => ?_)
          rotate_left
          · rfl
          · (intro W hW; (obtain ⟨d0, f0, f1, f2, _, _⟩ := HEC.out W hW); go_simp; first | done | with_reducible rfl)
          (try go_simp)
          refine hK _ _ ?_
          clear hK K
          refine takeT (i := 7) (v := ?_) rfl (by kernel_rfl) (by kernel_rfl) (by kernel_rfl) (by kernel_rfl) (fun _ _ _ h => h) (by assumption) (Or.inl ⟨?_, ?_⟩) (fun K hK => ?_)
          rotate_left
          · rfl
          · (intro W hW; (obtain ⟨d0, f0, f1, f2, _, _⟩ := HEC.out W hW); go_simp; first | done | with_reducible rfl)
          (try go_simp)
          refine hK _ _ ?_
          clear hK K
          refine takeT (i := 8) (v := ?_) rfl (by kernel_rfl) (by kernel_rfl) (by kernel_rfl) (by kernel_rfl) (fun _ _ _ h => h) (by assumption) (Or.inl ⟨?_, ?_⟩) (fun K hK => ?_)
          rotate_left
          · rfl
          · (intro W hW; (obtain ⟨d0, f0, f1, f2, _, _⟩ := HEC.out W hW); go_simp; first | done | with_reducible rfl)
          (try go_simp)
          refine hK _ _ ?_
          clear hK K
          refine takeT (i := 9) (v := ?_) rfl (by kernel_rfl) (by kernel_rfl) (by kernel_rfl) (by kernel_rfl) (fun _ _ _ h => h) (by assumption) (Or.inl ⟨?_, ?_⟩) (fun K hK => ?_)
          rotate_left
          · rfl
          · (intro W hW; (obtain ⟨d0, f0, f1, f2, _, _⟩ := HEC.out W hW); go_simp; first | done | with_reducible rfl)
          (try go_simp)
          refine hK _ _ ?_
          clear hK K
          refine takeT (i := 10) (v := ?_) rfl (by kernel_rfl) (by kernel_rfl) (by kernel_rfl) (by kernel_rfl) (fun _ _ _ h => h) (by assumption) (Or.inl ⟨?_, ?_⟩) (fun K hK => ?_)
          rotate_left
          · rfl
          · (intro W hW; (obtain ⟨d0, f0, f1, f2, _, _⟩ := HEC.out W hW); go_simp; first | done | with_reducible rfl)
          (try go_simp)
          refine hK _ _ ?_
          clear hK K
          refine takeT (i := 11) (v := ?_) rfl (by kernel_rfl) (by kernel_rfl) (by kernel_rfl) (by kernel_rfl) (fun _ _ _ h => h) (by assumption) (Or.inl ⟨?_, ?_⟩) (fun K hK => ?_)
          rotate_left
          · rfl
          · (intro W hW; (obtain ⟨d0, f0, f1, f2, _, _⟩ := HEC.out W hW); go_simp; first | done | with_reducible rfl)
          (try go_simp)
          refine hK _ _ ?_
          clear hK K
          refine takeT (i := 12) (v := ?_) rfl (by kernel_rfl) (by kernel_rfl) (by kernel_rfl) (by kernel_rfl) (fun _ _ _ h => h) (by assumption) (Or.inl ⟨?_, ?_⟩) (fun K hK => ?_)
          rotate_left
          · rfl
          · (intro W hW; (obtain ⟨d0, f0, f1, f2, _, _⟩ := HEC.out W hW); go_simp; first | done | with_reducible rfl)
          (try go_simp)
          refine hK _ _ ?_
          clear hK K
          refine takeT (i := 13) (v := ?_) rfl (by kernel_rfl) (by kernel_rfl) (by kernel_rfl) (by kernel_rfl) (fun _ _ _ h => h) (by assumption) (Or.inl ⟨?_, ?_⟩) (fun K hK => ?_)
          rotate_left
          · rfl
          · (intro W hW; (obtain ⟨d0, f0, f1, f2, _, _⟩ := HEC.out W hW); go_simp; first | done | with_reducible rfl)
          (try go_simp)
          refine hK _ _ ?_
          clear hK K
          refine takeT (i := 15) (v := ?_) rfl (by kernel_rfl) (by kernel_rfl) (by kernel_rfl) (by kernel_rfl) (fun _ _ _ h => h) (by assumption) (Or.inl ⟨?_, ?_⟩) (fun K hK => ?_)
          rotate_left
          · rfl
          · (intro W hW; (obtain ⟨d0, f0, f1, f2, _, _⟩ := HEC.out W hW); go_simp; first | done | with_reducible rfl)
          (try go_simp)
          refine hK _ _ ?_
          clear hK K
          refine takeT (i := 16) (v := ?_) rfl (by kernel_rfl) (by kernel_rfl) (by kernel_rfl) (by kernel_rfl) (fun _ _ _ h => h) (by assumption) (Or.inl ⟨?_, ?_⟩) (fun K hK => ?_)
          rotate_left
          · rfl
          · (intro W hW; (obtain ⟨d0, f0, f1, f2, _, _⟩ := HEC.out W hW); go_simp; first | done | with_reducible rfl)
          (try go_simp)
          refine hK _ _ ?_
          clear hK K
          refine takeT (i := 17) (v := ?_) rfl (by kernel_rfl) (by kernel_rfl) (by kernel_rfl) (by kernel_rfl) (fun _ _ _ h => h) (by assumption) (Or.inl ⟨?_, ?_⟩) (fun K hK => ?_)
          rotate_left
          · rfl
          · (intro W hW; (obtain ⟨d0, f0, f1, f2, _, _⟩ := HEC.out W hW); go_simp; first | done | with_reducible rfl)
          (try go_simp)
          refine hK _ _ ?_
          clear hK K
          refine takeT (i := 18) (v := ?_) rfl (by kernel_rfl) (by kernel_rfl) (by kernel_rfl) (by kernel_rfl) (fun _ _ _ h => h) (by assumption) (Or.inl ⟨?_, ?_⟩) (fun K hK => ?_)
          rotate_left
          · rfl
          · (intro W hW; (obtain ⟨d0, f0, f1, f2, _, _⟩ := HEC.out W hW); go_simp; first | done | with_reducible rfl)
          (try go_simp)
          refine hK _ _ ?_
          clear hK K
          refine takeT (i := 19) (v := ?_) rfl (by kernel_rfl) (by kernel_rfl) (by kernel_rfl) (by kernel_rfl) (fun _ _ _ h => h) (by assumption) (Or.inl ⟨?_, ?_⟩) (fun K hK => ?_)
          rotate_left
          · rfl
          · (intro W hW; (obtain ⟨d0, f0, f1, f2, _, _⟩ := HEC.out W hW); go_simp; first | done | with_reducible rfl)
          (try go_simp)
          refine hK _ _ ?_
          clear hK K
          refine takeT (i := 20) (v := ?_) rfl (by kernel_rfl) (by kernel_rfl) (by kernel_rfl) (by kernel_rfl) (fun _ _ _ h => h) (by assumption) (Or.inl ⟨?_, ?_⟩) (fun K hK => ?_)
          rotate_left
          · rfl
          · (intro W hW; (obtain ⟨d0, f0, f1, f2, _, _⟩ := HEC.out W hW); go_simp; first | done | with_reducible rfl)
          (try go_simp)
          refine hK _ _ ?_
          clear hK K
          refine takeT (i := 21) (v := ?_) rfl (by kernel_rfl) (by kernel_rfl) (by kernel_rfl) (by kernel_rfl) (fun _ _ _ h => h) (by assumption) (Or.inl ⟨?_, ?_⟩) (fun K hK => ?_)
          rotate_left
          · rfl
          · (intro W hW; (obtain ⟨d0, f0, f1, f2, _, _⟩ := HEC.out W hW); go_simp; first | done | with_reducible rfl)
          (try go_simp)
          refine hK _ _ ?_
          clear hK K
          refine takeT (i := 22) (v := ?_) rfl (by kernel_rfl) (by kernel_rfl) (by kernel_rfl) (by kernel_rfl) (fun _ _ _ h => h) (by assumption) (Or.inl ⟨?_, ?_⟩) (fun K hK => ?_)
          rotate_left
          · rfl
          · (intro W hW; (obtain ⟨d0, f0, f1, f2, _, _⟩ := HEC.out W hW); go_simp; first | done | with_reducible rfl)
          (try go_simp)
          refine hK _ _ ?_
          clear hK K
          refine takeT (i := 23) (v := ?_) rfl (by kernel_rfl) (by kernel_rfl) (by kernel_rfl) (by kernel_rfl) (fun _ _ _ h => h) (by assumption) (Or.inl ⟨?_, ?_⟩) (fun K hK => ?_)
          rotate_left
          · rfl
          · (intro W hW; (obtain ⟨d0, f0, f1, f2, _, _⟩ := HEC.out W hW); go_simp; first | done | with_reducible rfl)
          (try go_simp)
          refine hK _ _ ?_
          clear hK K
          refine takeT (i := 24) (v := ?_) rfl (by kernel_rfl) (by kernel_rfl) (by kernel_rfl) (by kernel_rfl) (fun _ _ _ h => h) (by assumption) (Or.inl ⟨?_, ?_⟩) (fun K hK => ?_)
          rotate_left
          · rfl
          · (intro W hW; (obtain ⟨d0, f0, f1, f2, _, _⟩ := HEC.out W hW); go_simp; first | done | with_reducible rfl)
          (try go_simp)
          refine hK _ _ ?_
          clear hK K
          refine callT (k := 5) (by kernel_rfl) rfl ?_ (fun K hK => ?_)
          · rfl
          go_simp
          refine hK _ _ (by assumption) ?_
          clear hK K
          refine callT (k := 14) (by kernel_rfl) rfl ?_ (fun K hK => ?_)
          · rfl
          have hown0 : OwnB (wr.drew.alloc (.cells #[] 5)) (.slice (some ⟨wr.heap.size, 0, none⟩) 0 0) [] :=
            Or.inr ⟨wr.heap.size, 0, #[], rfl, heap_alloc_new wr.drew _, Nat.le_refl _, by unfold maxLen; omega, Nat.le_refl _, rfl⟩
          have hsS := Src.ofRd (cap := x.cS) ((HOKW.out _ hC1).s)
          refine wp_append_B _ _ rfl _ [] x.S rfl hown0 _ rfl hsS (by simp; omega) ?_
          intro v5 w5 hown5 hg5 hat5
          rw [List.nil_append] at hown5
          have hf5 : ∀ g, v5.ownBlock = some g → wr.heap.size ≤ g := fun g hg => by
            rcases hat5 with h | h
            · rw [h] at hg; cases hg; exact Nat.le_refl _
            · rw [h] at hg; simp at hg; omega
          have hC2 : (fun W => Below wr.heap.size wr W) w5 := Below.grown hC1 hg5 (by simp) (fun g hg => by cases hg; exact Nat.le_refl _)
          clear hC1 hC0 hown0 hsS hg5 hat5
          refine hK _ _ hC2 ?_
          clear hK K
          refine callT (k := 25) (by kernel_rfl) rfl ?_ (fun K hK => ?_)
          · rfl
          have hltk : (x.T.take (x.T.length)).length = x.T.length := by rw [List.length_take, Nat.min_eq_left hm]
          have hsP := Src.ofRd (cap := x.cT) (((HOKW.out _ hC2).t).take (x.T.length))
          rw [hltk] at hsP
          refine wp_append_B _ _ rfl _ x.S (x.T.take (x.T.length)) rfl hown5 _ rfl (by rw [hltk]; exact hsP) (by rw [hltk]; omega) ?_
          intro v6 w6 hown6 hg6 hat6
          have hf6 : ∀ g, v6.ownBlock = some g → wr.heap.size ≤ g := fun g hg => by
            rcases hat6 with h | h
            · rw [h] at hg; exact hf5 g hg
            · rw [h] at hg; simp at hg; have := Below.size hC2; omega
          have hC3 : (fun W => Below wr.heap.size wr W) w6 := Below.grown hC2 hg6 (Below.size hC2) (fun g hg => hf5 g hg)
          rw [← HBS.out] at hown6
          obtain ⟨aV, gV, oV, cV, rfl, hcV, hrV, _⟩ := hown6.rd
          have hNX := HH.out.next HGET.out HV.out (HH.out.blk gL (Or.inr (Or.inl (by rw [HV.out]; rfl)))) hC3 hrV hcV (fun hn => hf6 gV (by rw [hrV.some hn]; rfl)) (k' := (k + 1)) (fun r => by exact HST.out bs r HBS.out)
          obtain ⟨hr7, hn7⟩ := hNX
          have HR7 := hid hr7
          have HN7 := hid hn7
          clear hC2 hown5 hsP hg6 hat6 hf5 hf6 hown6 hrV hltk hr7 hn7
          refine hK _ _ hC3 ?_
          clear hK K
          obtain ⟨d0, f0, f1, f2, z1, z2⟩ := HEC.out w6 hC3
          refine takeT (i := 26) (v := ?_) rfl (by kernel_rfl) (by kernel_rfl) (by kernel_rfl) (by kernel_rfl) (fun _ _ _ h => h) (by assumption) (Or.inl ⟨?_, ?_⟩) (fun K hK => ?_)
          rotate_left
          · rfl
          · (intro W hW; (obtain ⟨d0, f0, f1, f2, _, _⟩ := HEC.out W hW); go_simp; first | done | with_reducible rfl)
          (try go_simp)
          refine hK _ _ ?_
          clear hK K
          refine takeT (i := 27) (v := ?_) rfl (by kernel_rfl) (by kernel_rfl) (by kernel_rfl) (by kernel_rfl) (fun _ _ _ h => h) (by assumption) (Or.inl ⟨?_, ?_⟩) (fun K hK => ?_)
          rotate_left
          · rfl
          · (intro W hW; (obtain ⟨d0, f0, f1, f2, _, _⟩ := HEC.out W hW); go_simp; first | done | with_reducible rfl)
          (try go_simp)
          refine hK _ _ ?_
          clear hK K
          refine lastT (by kernel_rfl) rfl ?_ (fun K hK => ?_)
          · rfl
          go_simp
          refine hK _ _ ?_
          clear hK K
          refine doneT (by kernel_rfl) ?_
          clear d0 f0 f1 f2 z1 z2 hC3 hcut
          obtain ⟨w7, hw7⟩ : ∃ w7, w7 = w6.setCell ⟨gL, i * 3 + 1, none⟩ (.slice aV bs.length cV) := ⟨_, rfl⟩
          rw [← hw7] at HR7 HN7 ⊢
          obtain ⟨d0, f0, f1, f2, z1, z2⟩ := HR7.out.elemC (set_get HGET.out) HV.out
          clear hw7
          go_wp2_with fail
          go_roundw
          case rel => exact ⟨i + 1, (k + 1), _, by omega, by omega, by go_num, by go_num, HN7.out⟩
          case measure => simp [intOf]; omega
    · have hii : i = s.l.length := by omega
      subst hii
      have HF := hid h1.end
      obtain ⟨c0, _, c2, c3⟩ := h1.rk.cells
      have z2 := h1.rk.free 2
      have z3 := h1.rk.free 3
      obtain ⟨aL, gL, oL, cL, hv, hcL, hrr, _⟩ := h1.rk.own.rd encF_len
      rw [hv, h1.len] at c0
      clear hv hrr h1 hs hK
      go_wp2_with fail
      go_end0
      exact ⟨rfl, HF.out⟩
end Go.Proofs.Ytopabknlgmihpaa
