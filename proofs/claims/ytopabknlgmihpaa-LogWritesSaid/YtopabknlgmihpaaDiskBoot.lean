/- The power fails, and comes back: Boot. -/
import Derived.Test.YtopabknlgmihpaaDiskK
import Derived.IntWalk
namespace Go.Proofs.Ytopabknlgmihpaa
open Go Go.RowKit Go.MapKept Go.ChangeMaps Go.Maps Go.Sort

def atN (l : FL) (nm : List UInt8) : Option (SKey × List UInt8 × Nat) := l.find? (fun x => decide (keyL x.1 = nm))
/-- How many bytes of a tail are kept. -/
def keptT (q : Int) (tl : Nat) : Nat := min (max q 0).toNat tl
def bootF (st : FL × List Int) (nm : List UInt8) : FL × List Int :=
  match atN st.1 nm with
  | none => st
  | some x =>
    if x.2.2 < x.2.1.length then
      match st.2 with
      | [] => (aput st.1 x.1 (x.2.1, x.2.1.length), [])
      | q :: r => (aput st.1 x.1 (x.2.1.take (x.2.2 + keptT q (x.2.1.length - x.2.2)), x.2.2 + keptT q (x.2.1.length - x.2.2)), r)
    else (aput st.1 x.1 (x.2.1, x.2.1.length), st.2)
def bootA (keeps : List Int) (d : AD) : AD := { d with l := ((namesOf d.l).foldl bootF (d.l, keeps)).1, down := false, fuse := -1 }
theorem atN_key (l : FL) (n : SKey) {x : List UInt8 × Nat} (h : aget l n = some x) : atN l (keyL n) = some (n, x) := by
  unfold atN
  have : (fun x : SKey × List UInt8 × Nat => decide (keyL x.1 = keyL n)) = (fun x => decide (x.1 = n)) := by
    funext x
    by_cases h : x.1 = n
    · simp [h]
    · have : keyL x.1 ≠ keyL n := fun e => h (keyL_inj e)
      simp [h, this]
  rw [this]
  unfold aget at h
  cases hf : l.find? (fun p => decide (p.1 = n)) with
  | none => rw [hf] at h; cases h
  | some q =>
    rw [hf] at h
    have h1 := List.find?_some hf
    simp at h1 h
    rw [← h1, ← h]
theorem bootF_none {l : FL} {ks : List Int} {n : SKey} {x : List UInt8 × Nat} (h : aget l n = some x) (hx : x.2 ≤ x.1.length) (hs : ¬ (x.2 < x.1.length ∧ ks ≠ [])) : bootF (l, ks) (keyL n) = (aput l n (x.1, x.1.length), ks) := by
  unfold bootF
  simp only [atN_key l n h]
  by_cases h1 : x.2 < x.1.length
  · rw [if_pos h1]
    cases ks with
    | nil => rfl
    | cons q r => exact absurd ⟨h1, by simp⟩ hs
  · rw [if_neg h1]
theorem bootF_some {l : FL} {q : Int} {r : List Int} {n : SKey} {x : List UInt8 × Nat} (h : aget l n = some x) (hx : x.2 < x.1.length) : bootF (l, q :: r) (keyL n) = (aput l n (x.1.take (x.2 + keptT q (x.1.length - x.2)), x.2 + keptT q (x.1.length - x.2)), r) := by
  unfold bootF
  simp only [atN_key l n h, if_pos hx]
theorem names_mem {β : Type} {l : List (SKey × β)} {k : Nat} (h : k < (namesOf l).length) : ∃ x ∈ l, keyL x.1 = (namesOf l)[k] := by
  have h1 : (namesOf l)[k] ∈ namesOf l := List.getElem_mem h
  unfold namesOf at h1 ⊢
  rw [List.mem_mergeSort] at h1
  obtain ⟨x, hx, e⟩ := List.mem_map.1 h1
  exact ⟨x, hx, e⟩
theorem OwnB.cutKeep {w : World} {av : Option Addr} {cv : Nat} {bs : List UInt8} (h : OwnB w (.slice av bs.length cv) bs) {k : Nat} (hk : k ≤ bs.length) : (∀ W, (Instr.slice 22 (.slice av bs.length cv) none (some (.int .i64 k)) none).run Try.prog W = .ok (.slice av k cv) W) ∧ OwnB w (.slice av k cv) (bs.take k) := by
  have hc : bs.length ≤ cv := by
    rcases h with ⟨h1, h2⟩ | ⟨g, cap, cur, h1, h2, h3, _⟩
    · simp only [Value.slice.injEq] at h1; omega
    · simp only [Value.slice.injEq] at h1; omega
  refine ⟨fun W => ?_, ?_⟩
  · have h1 : k ≤ cv := by omega
    by_cases h0 : cv = 0
    · subst h0
      cases av with
      | none => simp [Instr.slice, run_underlying Try.underlying22, sizeB, Instr.sliceBounds, Instr.sliceBound, asIntOf, h1]
      | some a => simp [Instr.slice, run_underlying Try.underlying22, sizeB, Instr.sliceBounds, Instr.sliceBound, asIntOf, h1, Addr.add]
    · cases av with
      | none => simp [Instr.slice, run_underlying Try.underlying22, sizeB, Instr.sliceBounds, Instr.sliceBound, asIntOf, h1]
      | some a => simp [Instr.slice, run_underlying Try.underlying22, sizeB, Instr.sliceBounds, Instr.sliceBound, asIntOf, h1, h0, Addr.add]
  · rcases h with ⟨h1, h2⟩ | ⟨g, cap, cur, h1, h2, h3, h4, h5, h6⟩
    · simp only [Value.slice.injEq] at h1
      have : k = 0 := by omega
      subst this
      exact Or.inl ⟨by rw [h1.1, h1.2.2], by simp⟩
    · simp only [Value.slice.injEq] at h1
      obtain ⟨rfl, _, rfl⟩ := h1
      refine Or.inr ⟨g, cv, cur, by rw [List.length_take, Nat.min_eq_left hk], h2, by rw [List.length_take]; omega, h4, h5, ?_⟩
      rw [List.length_take, Nat.min_eq_left hk, List.map_take, ← h6, List.take_take, Nat.min_eq_left hk]
/-- What a round leaves, in one form. -/
theorem Dk.booted {w4 w5 : World} {p : Nat} {s : DkS} (h : Dk w4 p s) {x : SKey × Nat} (hx : x ∈ s.l) (f : FileS) (he : w5.heap[x.2]? = some (.cells #[f.v, .int .i64 f.sure] 73 (0, 0))) (hk : Keeps (· = x.2) w4 w5) (ho : OwnB w4 f.v f.bs)
    (hrow : ∀ g, f.v.ownBlock = some g → (s.fs x.2).v.ownBlock = some g) : ∃ s', Dk w5 p s' ∧ s'.abs = setA s.abs x.1 (f.bs, f.sure) ∧ s'.l = s.l ∧ s'.m = s.m ∧ (∀ g, s'.Blk p g → s.Blk p g) := by
  have hner : ∀ g, (s.fs x.2).v.ownBlock = some g → g ≠ x.2 := fun g hgg => (h.nr x hx g hgg).2.2.1 x hx
  have hd := h.setFile (w' := w5) hx (f := f) he (ho.keeps hk (fun g hg => hner g (hrow g hg))) (fun g hg => Or.inl (hrow g hg)) (fun g hgb hgx _ => hk.block g (h.lt g hgb) hgx)
  refine ⟨_, hd, ?_, rfl, rfl, fun g hgb => ?_⟩
  · unfold DkS.abs setA
    simp only
    rw [abs_set h.keys h.nde hx]
  · rcases hgb with rfl | rfl | ⟨y, hy, hyg⟩
    · exact Or.inl rfl
    · exact Or.inr (Or.inl rfl)
    · rcases hyg with rfl | hyg
      · exact Or.inr (Or.inr ⟨y, hy, Or.inl rfl⟩)
      · by_cases hyx : y.2 = x.2
        · simp only [hyx, updF_same] at hyg
          exact Or.inr (Or.inr ⟨x, hx, Or.inr (hrow g hyg)⟩)
        · simp only [updF_other _ _ hyx] at hyg
          exact Or.inr (Or.inr ⟨y, hy, Or.inr hyg⟩)
theorem sizeStr : ∀ W, (sizeOf 9).run Try.prog W = .ok 1 W := fun W => by kernel_rfl
set_option maxRecDepth 100000 in
set_option maxHeartbeats 6400000 in
theorem DiskBoot_any (w : World) (p : Nat) (s : DkS) (a : Option Addr) (g off cap : Nat) (kp : List Int) (hD : Dk w p s) (hG : s.abs.Good) (hk : RdS encI 1 w a g off kp) (hc : kp.length ≤ cap) (hcm : cap ≤ maxLen) (hnil : a = none → cap = 0) (hks : kp ≠ [] → ¬ s.Blk p g) :
    Calls Try.prog 15 #[.pointer (some ⟨p, 0, none⟩), .slice a kp.length cap] w fun e w' => e = .returned (.tuple #[]) ∧ ∃ s', Dk w' p s' ∧ s'.abs = bootA kp s.abs ∧ (∀ g, s'.Blk p g → s.Blk p g) ∧ Keeps (s.Blk p) w w' := by
  unfold maxLen at hcm
  obtain ⟨c0, c1, c2, c3⟩ := hD.cells
  have hl16 : s.l.length ≤ 1000 := by have := hG.len; rw [len_abs] at this; omega
  have hS := Sorted_keys s.m s.l w hD.files hl16
  rw [← names_map s.l s.fs] at hS
  have hpl := hD.lt p (Or.inl rfl)
  have HS := hid hS
  have HD := hid hD
  have HG := hid hG
  have HK := hid hk
  obtain ⟨NS, hNS⟩ : ∃ NS, NS = namesOf s.abs.l := ⟨_, rfl⟩
  have hsl : s.l.map (fun x => (x.1, (s.fs x.2).bs, (s.fs x.2).sure)) = s.abs.l := rfl
  rw [hsl, ← hNS] at HS
  have HNS := hid hNS
  clear hS hD hG hk hNS hsl
  go_enter Try.func15, Try.ntmps15
  go_wp2_with fail
  refine (Keys_any (some s.m) w).mono ?_
  rintro e w1 ⟨rfl, rfl⟩
  go_wp2_with fail
  refine HS.out.mono ?_
  rintro e w2 ⟨v, rfl, hown, hb2⟩
  obtain ⟨aN, gN, oN, cN, rfl, hcN, hrN, hnN⟩ := hown.rd encN_len
  have hgN : NS ≠ [] → w.heap.size ≤ gN := fun hne => (hown.lt gN (by rw [hrN.some hne]; rfl)).1
  have hNlen : NS.length ≤ 1000 := by rw [HNS.out]; unfold namesOf; rw [List.length_mergeSort, List.length_map, len_abs]; exact hl16
  have HB2 := hid hb2
  clear hown hb2
  go_wp2
  go_loopw [1, 15] (fun v1 v15 wr => ∃ (k : Nat) (s1 : DkS) (kp1 : List Int) (a1 : Option Addr) (g1 o1 q1 : Nat), k ≤ NS.length ∧ v15 = .int .i64 k ∧ v1 = .slice a1 kp1.length q1 ∧ kp1.length ≤ q1 ∧ (a1 = none → q1 = 0) ∧ RdS encI 1 wr a1 g1 o1 kp1 ∧ (kp1 ≠ [] → ¬ s.Blk p g1) ∧ Dk wr p s1 ∧ s1.l = s.l ∧ s1.m = s.m ∧ s1.abs.Good ∧ (NS.take k).foldl bootF (s.abs.l, kp) = (s1.abs.l, kp1) ∧ s1.room = s.room ∧ (∀ g, s1.Blk p g → s.Blk p g) ∧ Keeps (s.Blk p) w wr ∧ RdS encN 1 wr aN gN oN NS) (fun _ v15 _ => NS.length - (intOf v15).toNat)
  case atStart => exact ⟨0, s, kp, a, g, off, cap, Nat.zero_le _, rfl, rfl, hc, hnil, HK.out.below HB2.out, hks, HD.out.below HB2.out, rfl, rfl, HG.out, rfl, rfl, fun g h => h, below_keeps HB2.out, hrN⟩
  case round =>
    clear hrN hc hnil hks c0 c1 c2 c3
    obtain ⟨k, s1, kp1, a1, g1, o1, q1, hkN, rfl, rfl, hq1, hn1, hR1, hk1, hD1, hl1, hm1, hG1, hst, hroom, hB1, hK1, hN1⟩ := hrel
    by_cases hlt : k < NS.length
    · have hxm : ∃ x ∈ s.l, keyL x.1 = NS[k] := by
        have h0 := HNS.out
        subst h0
        obtain ⟨y, hy, e0⟩ := names_mem hlt
        obtain ⟨x, hx, rfl⟩ := List.mem_map.1 hy
        exact ⟨x, hx, e0⟩
      obtain ⟨⟨n, e⟩, hx, hkx⟩ := hxm
      rw [← hl1] at hx
      simp only at hkx
      have hno : aget s1.l n = some e := aget_some hD1.keys hx
      have hna : aget s1.abs.l n = some ((s1.fs e).bs, (s1.fs e).sure) := by unfold DkS.abs; rw [abs_get, hno]; rfl
      have hix := hN1.index (P := Try.prog) Try.underlying47 sizeStr hlt cN
      simp only [Nat.mul_one] at hix
      have hcn : wr.cell? ⟨gN, oN + k, none⟩ = some (.string n.1) := by
        have h0 := hN1.cells k NS[k] (by simp [hlt]) 0 _ rfl
        rw [← hkx, vS_keyL, Nat.mul_one] at h0
        exact h0
      have hstep : ∀ r, bootF (s1.abs.l, kp1) (keyL n) = r → (NS.take (k + 1)).foldl bootF (s.abs.l, kp) = r := fun r h0 => by
        rw [List.take_succ_eq_append_getElem hlt, List.foldl_append, hst, ← hkx]
        exact h0
      have hlk := hD1.look n false
      simp only [Bool.false_eq_true, if_false] at hlk
      rw [hno] at hlk
      simp only [Option.map_some, Option.getD_some, vP] at hlk
      have hlen := hG1.len_get hna
      have hrm := hG1.room.2
      obtain ⟨x0, x1⟩ := hD1.ecells hx
      have xf0 := hD1.efree hx 0
      have xf1 := hD1.efree hx 1
      have hent := hD1.ent _ hx
      have hown := hD1.own _ hx
      obtain ⟨av, gv, ov, cv, hv, hcv, _, _⟩ := hown.rd
      simp only at x0 x1 xf0 xf1 hent hown hv hlen
      rw [hv] at x0
      obtain ⟨d0, _⟩ := hD1.cells
      rw [hm1] at d0 hlk
      obtain ⟨bs, hbs⟩ : ∃ bs, bs = (s1.fs e).bs := ⟨_, rfl⟩
      obtain ⟨S, hS⟩ : ∃ S, S = (s1.fs e).sure := ⟨_, rfl⟩
      rw [← hbs, ← hS] at hna
      rw [← hbs] at x0 hown hcv hv
      rw [← hbs, ← hS] at hlen
      rw [← hS] at x1
      obtain ⟨tl, htl⟩ : ∃ tl, tl = bs.length - S := ⟨_, rfl⟩
      have hwr : IntKind.i64.wrap ((bs.length : Int) - (S : Int)) = (tl : Int) := by rw [IntWalk.i64_in _ (by omega)]; omega
      have hown' : OwnB wr (.slice av bs.length cv) bs := by rw [← hv]; exact hown
      have HX := hid hx
      have HD1 := hid hD1
      have HNA := hid hna
      have HSTEP := hid hstep
      have HG1 := hid hG1
      have HO := hid hown'
      have HV := hid hv
      have HENT := hid hent
      have HBS := hid hbs
      have HHS := hid hS
      have HL1 := hid hl1
      have HM1 := hid hm1
      have HRO := hid hroom
      have HB1 := hid hB1
      have HK1 := hid hK1
      have HN1 := hid hN1
      have HKX := hid hkx
      have HR1 := hid hR1
      have HKS := hid hk1
      have hxb : s.Blk p e := hB1 e (Or.inr (Or.inr ⟨(n, e), hx, Or.inl rfl⟩))
      have HTL := hid htl
      clear hx hD1 hna hstep hG1 hown hown' hv hent hbs hS hl1 hm1 hroom hB1 hK1 hN1 hkx hR1 hst hno hk1 htl
      by_cases h0 : tl = 0
      · subst h0
        have HST2 := hid (HSTEP.out _ (bootF_none HNA.out hlen.1 (fun h => by have := HTL.out; simp only at h; omega)))
        clear HSTEP
        go_wp2
        go_quiet (fail)
        clear hwr hlk
        go_wp2
        have hE4 : Ext wr (wr.drewN nq) := (Ext.refl wr).drewN _
        have hk5 : Keeps (· = e) (wr.drewN nq) ((wr.drewN nq).setCell ⟨e, 1, none⟩ (.int .i64 bs.length)) := keeps_setCell _ _ _ _
        obtain ⟨s2, hD2, ha2, hl2, hm2, hB2⟩ := (HD1.out.ext hE4).booted (w5 := (wr.drewN nq).setCell ⟨e, 1, none⟩ (.int .i64 bs.length)) HX.out ⟨.slice av bs.length cv, bs, bs.length⟩ (by
          have := heap_setCell_at (w := wr.drewN nq) (o := 1) HENT.out (.int .i64 (bs.length : Int))
          rw [HV.out] at this
          simpa using this) hk5 (HO.out.ext hE4) (fun g h => by simp only; rw [HV.out]; exact h)
        have hG2 : s2.abs.Good := by rw [ha2]; exact HG1.out.set HNA.out (Nat.le_refl _) (Nat.le_refl _)
        have hst3 : (NS.take (k + 1)).foldl bootF (s.abs.l, kp) = (s2.abs.l, kp1) := by rw [ha2]; exact HST2.out
        have hro2 : s2.room = s.room := by have := congrArg AD.room ha2; exact this.trans HRO.out
        have hkk : Keeps (s.Blk p) w ((wr.drewN nq).setCell ⟨e, 1, none⟩ (.int .i64 bs.length)) := (HK1.out.drewN nq).setCell (p := ⟨e, 1, none⟩) (fun _ => hxb) _
        have hR2 := (HR1.out.below hE4.below).keeps hk5 (fun hne e0 => HKS.out hne (by rw [e0]; exact hxb))
        have hN2 := (HN1.out.below hE4.below).keeps hk5 (fun hne e0 => by have := hgN hne; rw [e0] at this; have := HD.out.lt e hxb; omega)
        have HREL := hid (And.intro hD2 (And.intro hG2 (And.intro hst3 (And.intro hro2 (And.intro hkk (And.intro hR2 hN2))))))
        have HL2 := hid (hl2.trans HL1.out)
        have HM2 := hid (hm2.trans HM1.out)
        have HBB := hid (show ∀ g, s2.Blk p g → s.Blk p g from fun g h => HB1.out g (hB2 g h))
        clear hD2 ha2 hl2 hm2 hB2 hG2 hst3 hro2 hkk hR2 hN2 hE4 hk5 x0 x1 xf0 xf1 hix hcn d0
        go_roundw
        case rel => exact ⟨k + 1, s2, kp1, a1, g1, o1, q1, by omega, by go_num, rfl, hq1, hn1, HREL.out.2.2.2.2.2.1, HKS.out, HREL.out.1, HL2.out, HM2.out, HREL.out.2.1, HREL.out.2.2.1, HREL.out.2.2.2.1, HBB.out, HREL.out.2.2.2.2.1, HREL.out.2.2.2.2.2.2⟩
        case measure => simp [intOf]; omega
      · have h0' : (0 : Int) < (tl : Int) := by omega
        cases kp1 with
        | nil =>
          have HST2 := hid (HSTEP.out _ (bootF_none HNA.out hlen.1 (fun h => h.2 rfl)))
          clear HSTEP
          go_wp2
          go_quiet (fail)
          clear hwr hlk
          go_wp2
          have hE4 : Ext wr (wr.drewN nq) := (Ext.refl wr).drewN _
          have hk5 : Keeps (· = e) (wr.drewN nq) ((wr.drewN nq).setCell ⟨e, 1, none⟩ (.int .i64 bs.length)) := keeps_setCell _ _ _ _
          obtain ⟨s2, hD2, ha2, hl2, hm2, hB2⟩ := (HD1.out.ext hE4).booted (w5 := (wr.drewN nq).setCell ⟨e, 1, none⟩ (.int .i64 bs.length)) HX.out ⟨.slice av bs.length cv, bs, bs.length⟩ (by
            have := heap_setCell_at (w := wr.drewN nq) (o := 1) HENT.out (.int .i64 (bs.length : Int))
            rw [HV.out] at this
            simpa using this) hk5 (HO.out.ext hE4) (fun g h => by simp only; rw [HV.out]; exact h)
          have hG2 : s2.abs.Good := by rw [ha2]; exact HG1.out.set HNA.out (Nat.le_refl _) (Nat.le_refl _)
          have hst3 : (NS.take (k + 1)).foldl bootF (s.abs.l, kp) = (s2.abs.l, []) := by rw [ha2]; exact HST2.out
          have hro2 : s2.room = s.room := by have := congrArg AD.room ha2; exact this.trans HRO.out
          have hkk : Keeps (s.Blk p) w ((wr.drewN nq).setCell ⟨e, 1, none⟩ (.int .i64 bs.length)) := (HK1.out.drewN nq).setCell (p := ⟨e, 1, none⟩) (fun _ => hxb) _
          have hR2 := (HR1.out.below hE4.below).keeps hk5 (fun hne e0 => HKS.out hne (by rw [e0]; exact hxb))
          have hN2 := (HN1.out.below hE4.below).keeps hk5 (fun hne e0 => by have := hgN hne; rw [e0] at this; have := HD.out.lt e hxb; omega)
          have HREL := hid (And.intro hD2 (And.intro hG2 (And.intro hst3 (And.intro hro2 (And.intro hkk (And.intro hR2 hN2))))))
          have HL2 := hid (hl2.trans HL1.out)
          have HM2 := hid (hm2.trans HM1.out)
          have HBB := hid (show ∀ g, s2.Blk p g → s.Blk p g from fun g h => HB1.out g (hB2 g h))
          clear hD2 ha2 hl2 hm2 hB2 hG2 hst3 hro2 hkk hR2 hN2 hE4 hk5 x0 x1 xf0 xf1 hix hcn d0
          go_roundw
          case rel => exact ⟨k + 1, s2, [], a1, g1, o1, q1, by omega, by go_num, rfl, hq1, hn1, HREL.out.2.2.2.2.2.1, HKS.out, HREL.out.1, HL2.out, HM2.out, HREL.out.2.1, HREL.out.2.2.1, HREL.out.2.2.2.1, HBB.out, HREL.out.2.2.2.2.1, HREL.out.2.2.2.2.2.2⟩
          case measure => simp [intOf]; omega
        | cons q r =>
          have hst2 := HSTEP.out _ (bootF_some HNA.out (by have := HTL.out; simp only; omega))
          simp only at hst2
          rw [← HTL.out] at hst2
          have hR1 := HR1.out
          have hgl1 : a1 = some ⟨g1, o1, none⟩ := hR1.some (by simp)
          have hks1 := HKS.out (by simp)
          have hge : g1 ≠ e := fun e0 => hks1 (by rw [e0]; exact hxb)
          have y2 : wr.cell? ⟨g1, o1, none⟩ = some (.int .i64 q) := by simpa using hR1.cells 0 q rfl 0 _ rfl
          have hi0 : ∀ W, (Instr.indexAt 31 (.slice a1 (r.length + 1) q1) (.int .i64 0)).run Try.prog W = .ok (.pointer (some ⟨g1, o1, none⟩)) W := fun W => by
            have := hR1.index (P := Try.prog) (i := 0) Try.underlying31 sizeInt (by simp) q1 W
            simpa using this
          obtain ⟨v2, hdr, _, hrd2, hob2⟩ := hR1.drop (P := Try.prog) (n := 1) Try.underlying31 sizeInt (by simp) hq1 hn1
          have hdr' : ∀ W, (Instr.slice 31 (.slice a1 (r.length + 1) q1) (some (.int .i64 1)) none none).run Try.prog W = .ok v2 W := fun W => by have := hdr W; simpa using this
          rw [List.drop_one, List.tail_cons] at hrd2
          obtain ⟨a2, g2, o2, c2, rfl, hc2, hR2, hn2⟩ := hrd2
          have hks2 : r ≠ [] → ¬ s.Blk p g2 := fun hne => by
            have h1 := hob2 g2 (by rw [hR2.some hne]; rfl)
            rw [hgl1] at h1
            simp only [Value.ownBlock, Option.some.injEq] at h1
            rw [← h1]
            exact hks1
          have hpos : (0 : Int) < (r.length : Int) + 1 := by omega
          have HST2 := hid hst2
          have HR2 := hid hR2
          have HKS2 := hid hks2
          have HGE := hid hge
          have HCUT := hid (fun (m : Nat) (hm : m ≤ bs.length) => HO.out.cutKeep hm)
          clear hst2 hR1 hgl1 hks1 hdr hob2 hR2 hks2 hge HSTEP HR1 HKS

          obtain ⟨SM, hSM⟩ : ∃ SM, SM = S + keptT q tl := ⟨_, rfl⟩
          have hle : SM ≤ bs.length := by have := HTL.out; rw [hSM]; unfold keptT; omega
          have hsc : (SM : Int) ≤ (cv : Int) := by omega
          have hwr2 : IntKind.i64.wrap ((S : Int) + min (max q 0) (tl : Int)) = (SM : Int) := by
            have hS2 : (SM : Int) = (S : Int) + min (max q 0) (tl : Int) := by rw [hSM]; unfold keptT; omega
            rw [IntWalk.i64_in _ (by omega)]
            exact hS2.symm
          obtain ⟨hsl, hcut⟩ := HCUT.out SM hle
          have HST3 := hid HST2.out
          rw [← hSM] at HST3
          have HC2 := hid hcut
          have HLE := hid hle
          clear hSM hcut HST2 hle
          go_wp2
          go_quiet (fail)
          clear hwr hlk
          have hC0 : (fun W : World => W.cell? ⟨e, 1, none⟩ = some (.int .i64 (S : Int)) ∧ W.cell? ⟨g1, o1, none⟩ = some (.int .i64 q)) (wr.drewN (nq + 1)) := ⟨x1, y2⟩
          have hC1 : (fun W : World => W.cell? ⟨e, 1, none⟩ = some (.int .i64 (S : Int)) ∧ W.cell? ⟨g1, o1, none⟩ = some (.int .i64 q)) ((wr.drewN (nq + 1)).setCell ⟨e, 0, none⟩ (.slice av SM cv)) := by
            refine ⟨?_, (keeps_setCell (wr.drewN (nq + 1)) e 0 _).cell (fun e0 => HGE.out e0) y2⟩
            rw [World.cell?_setCell_other _ _ _ _ (by simp)]
            exact x1
          go_wp2_with fail
          refine wp_region_C (fun W : World => W.cell? ⟨e, 1, none⟩ = some (.int .i64 (S : Int)) ∧ W.cell? ⟨g1, o1, none⟩ = some (.int .i64 q)) (by kernel_rfl) ?_
          refine takeC (i := 0) (v := ?_) rfl (by kernel_rfl) (by kernel_rfl) (by kernel_rfl) (fun _ _ _ h => h) (by assumption) (Or.inl ⟨?_, ?_⟩) (fun K hK => ?_)
          rotate_left
          · rfl
          · (intro W hW; obtain ⟨y1, y2⟩ := hW; go_simp; first | done | with_reducible rfl)
          (try go_simp)
          refine hK _ _ ?_
          clear hK K
          refine takeC (i := 1) (v := ?_) rfl (by kernel_rfl) (by kernel_rfl) (by kernel_rfl) (fun _ _ _ h => h) (by assumption) (Or.inl ⟨?_, ?_⟩) (fun K hK => ?_)
          rotate_left
          · rfl
          · (intro W hW; obtain ⟨y1, y2⟩ := hW; go_simp; first | done | with_reducible rfl)
          (try go_simp)
          refine hK _ _ ?_
          clear hK K
          refine takeC (i := 2) (v := ?_) rfl (by kernel_rfl) (by kernel_rfl) (by kernel_rfl) (fun _ _ _ h => h) (by assumption) (Or.inl ⟨?_, ?_⟩) (fun K hK => ?_)
          rotate_left
          · rfl
          · (intro W hW; obtain ⟨y1, y2⟩ := hW; go_simp; first | done | with_reducible rfl)
          (try go_simp)
          refine hK _ _ ?_
          clear hK K
          refine takeC (i := 3) (v := ?_) rfl (by kernel_rfl) (by kernel_rfl) (by kernel_rfl) (fun _ _ _ h => h) (by assumption) (Or.inl ⟨?_, ?_⟩) (fun K hK => ?_)
          rotate_left
          · rfl
          · (intro W hW; obtain ⟨y1, y2⟩ := hW; go_simp; first | done | with_reducible rfl)
          (try go_simp)
          refine hK _ _ ?_
          clear hK K
          refine takeC (i := 5) (v := ?_) rfl (by kernel_rfl) (by kernel_rfl) (by kernel_rfl) (fun _ _ _ h => h) (by assumption) (Or.inl ⟨?_, ?_⟩) (fun K hK => ?_)
          rotate_left
          · rfl
          · (intro W hW; obtain ⟨y1, y2⟩ := hW; go_simp; first | done | with_reducible rfl)
          (try go_simp)
          refine hK _ _ ?_
          clear hK K
          refine takeC (i := 6) (v := ?_) rfl (by kernel_rfl) (by kernel_rfl) (by kernel_rfl) (fun _ _ _ h => h) (by assumption) (Or.inl ⟨?_, ?_⟩) (fun K hK => ?_)
          rotate_left
          · rfl
          · (intro W hW; obtain ⟨y1, y2⟩ := hW; go_simp; first | done | with_reducible rfl)
          (try go_simp)
          refine hK _ _ ?_
          clear hK K
          refine takeC (i := 7) (v := ?_) rfl (by kernel_rfl) (by kernel_rfl) (by kernel_rfl) (fun _ _ _ h => h) (by assumption) (Or.inl ⟨?_, ?_⟩) (fun K hK => ?_)
          rotate_left
          · rfl
          · (intro W hW; obtain ⟨y1, y2⟩ := hW; go_simp; first | done | with_reducible rfl)
          (try go_simp)
          refine hK _ _ ?_
          clear hK K
          refine takeC (i := 8) (v := ?_) rfl (by kernel_rfl) (by kernel_rfl) (by kernel_rfl) (fun _ _ _ h => h) (by assumption) (Or.inl ⟨?_, ?_⟩) (fun K hK => ?_)
          rotate_left
          · rfl
          · (intro W hW; obtain ⟨y1, y2⟩ := hW; go_simp; first | done | with_reducible rfl)
          (try go_simp)
          refine hK _ _ ?_
          clear hK K
          refine takeC (i := 9) (v := ?_) rfl (by kernel_rfl) (by kernel_rfl) (by kernel_rfl) (fun _ _ _ h => h) (by assumption) (Or.inl ⟨?_, ?_⟩) (fun K hK => ?_)
          rotate_left
          · rfl
          · (intro W hW; obtain ⟨y1, y2⟩ := hW; go_simp; first | done | with_reducible rfl)
          (try go_simp)
          refine hK _ _ ?_
          clear hK K
          refine takeC (i := 10) (v := ?_) rfl (by kernel_rfl) (by kernel_rfl) (by kernel_rfl) (fun _ _ _ h => h) (by assumption) (Or.inl ⟨?_, ?_⟩) (fun K hK => ?_)
          rotate_left
          · rfl
          · (intro W hW; obtain ⟨y1, y2⟩ := hW; go_simp; first | done | with_reducible rfl)
          (try go_simp)
          refine hK _ _ ?_
          clear hK K
          refine takeC (i := 11) (v := ?_) rfl (by kernel_rfl) (by kernel_rfl) (by kernel_rfl) (fun _ _ _ h => h) (by assumption) (Or.inl ⟨?_, ?_⟩) (fun K hK => ?_)
          rotate_left
          · rfl
          · (intro W hW; obtain ⟨y1, y2⟩ := hW; go_simp; first | done | with_reducible rfl)
          (try go_simp)
          refine hK _ _ ?_
          clear hK K
          refine takeC (i := 12) (v := ?_) rfl (by kernel_rfl) (by kernel_rfl) (by kernel_rfl) (fun _ _ _ h => h) (by assumption) (Or.inl ⟨?_, ?_⟩) (fun K hK => ?_)
          rotate_left
          · rfl
          · (intro W hW; obtain ⟨y1, y2⟩ := hW; go_simp; first | done | with_reducible rfl)
          (try go_simp)
          refine hK _ _ ?_
          clear hK K
          refine takeC (i := 13) (v := ?_) rfl (by kernel_rfl) (by kernel_rfl) (by kernel_rfl) (fun _ _ _ h => h) (by assumption) (Or.inl ⟨?_, ?_⟩) (fun K hK => ?_)
          rotate_left
          · rfl
          · (intro W hW; obtain ⟨y1, y2⟩ := hW; go_simp; first | done | with_reducible rfl)
          (try go_simp)
          refine hK _ _ ?_
          clear hK K
          refine takeC (i := 14) (v := ?_) rfl (by kernel_rfl) (by kernel_rfl) (by kernel_rfl) (fun _ _ _ h => h) (by assumption) (Or.inl ⟨?_, ?_⟩) (fun K hK => ?_)
          rotate_left
          · rfl
          · (intro W hW; obtain ⟨y1, y2⟩ := hW; go_simp; first | done | with_reducible rfl)
          (try go_simp)
          refine hK _ _ ?_
          clear hK K
          refine takeC (i := 15) (v := ?_) rfl (by kernel_rfl) (by kernel_rfl) (by kernel_rfl) (fun _ _ _ h => h) (by assumption) (Or.inl ⟨?_, ?_⟩) (fun K hK => ?_)
          rotate_left
          · rfl
          · (intro W hW; obtain ⟨y1, y2⟩ := hW; go_simp; first | done | with_reducible rfl)
          (try go_simp)
          refine hK _ _ ?_
          clear hK K
          refine callC (k := 4) (by kernel_rfl) rfl ?_ (fun K hK => ?_)
          · rfl
          go_simp
          refine hK _ _ (by assumption) ?_
          clear hK K
          refine takeC (i := 16) (v := ?_) rfl (by kernel_rfl) (by kernel_rfl) (by kernel_rfl) (fun _ _ _ h => h) (by assumption) (Or.inl ⟨?_, ?_⟩) (fun K hK => ?_)
          rotate_left
          · rfl
          · (intro W hW; obtain ⟨y1, y2⟩ := hW; go_simp; first | done | with_reducible rfl)
          (try go_simp)
          refine hK _ _ ?_
          clear hK K
          refine takeC (i := 17) (v := ?_) rfl (by kernel_rfl) (by kernel_rfl) (by kernel_rfl) (fun _ _ _ h => h) (by assumption) (Or.inl ⟨?_, ?_⟩) (fun K hK => ?_)
          rotate_left
          · rfl
          · (intro W hW; obtain ⟨y1, y2⟩ := hW; go_simp; first | done | with_reducible rfl)
          (try go_simp)
          refine hK _ _ ?_
          clear hK K
          refine takeC (i := 18) (v := ?_) rfl (by kernel_rfl) (by kernel_rfl) (by kernel_rfl) (fun _ _ _ h => h) (by assumption) (Or.inl ⟨?_, ?_⟩) (fun K hK => ?_)
          rotate_left
          · rfl
          · (intro W hW; obtain ⟨y1, y2⟩ := hW; go_simp; first | done | with_reducible rfl)
          (try go_simp)
          refine hK _ _ ?_
          clear hK K
          refine callC (k := 19) (by kernel_rfl) rfl ?_ (fun K hK => ?_)
          · rfl
          go_simp
          refine hK _ _ (by assumption) ?_
          clear hK K
          refine doneC (by kernel_rfl) ?_
          clear hC0 hC1 hwr2 hsl hsc y2 hi0
          have hE4 : Ext wr (wr.drewN (nq + 1)) := (Ext.refl wr).drewN _
          have hk4 : Keeps (· = e) (wr.drewN (nq + 1)) ((wr.drewN (nq + 1)).setCell ⟨e, 0, none⟩ (.slice av SM cv)) := keeps_setCell _ _ _ _
          have h4 := heap_setCell_at (w := wr.drewN (nq + 1)) (o := 0) HENT.out (.slice av SM cv)
          obtain ⟨w4, hw4⟩ : ∃ w4, w4 = (wr.drewN (nq + 1)).setCell ⟨e, 0, none⟩ (.slice av SM cv) := ⟨_, rfl⟩
          rw [← hw4] at hk4 h4 ⊢
          have hk5 : Keeps (· = e) (wr.drewN (nq + 1)) (w4.setCell ⟨e, 1, none⟩ (.int .i64 SM)) := hk4.trans (keeps_setCell w4 e 1 _) (fun _ _ h => h)
          obtain ⟨s2, hD2, ha2, hl2, hm2, hB2⟩ := (HD1.out.ext hE4).booted (w5 := w4.setCell ⟨e, 1, none⟩ (.int .i64 SM)) HX.out ⟨.slice av SM cv, bs.take SM, SM⟩ (by
            have := heap_setCell_at (w := w4) (o := 1) h4 (.int .i64 (SM : Int))
            simpa using this) hk5 (HC2.out.ext hE4) (fun g h => by simp only; rw [HV.out]; cases av with | none => cases h | some a => exact h)
          have hG2 : s2.abs.Good := by rw [ha2]; exact HG1.out.set HNA.out (by have := HLE.out; simp; omega) (by simp; omega)
          have hst3 : (NS.take (k + 1)).foldl bootF (s.abs.l, kp) = (s2.abs.l, r) := by rw [ha2]; exact HST3.out
          have hro2 : s2.room = s.room := by have := congrArg AD.room ha2; exact this.trans HRO.out
          have hkk : Keeps (s.Blk p) w (w4.setCell ⟨e, 1, none⟩ (.int .i64 SM)) := (HK1.out.drewN (nq + 1)).trans (hk5.mono (T := s.Blk p) (fun g _ e0 => by rw [e0]; exact hxb)) (fun _ _ h => h)
          have hR3 := (HR2.out.below hE4.below).keeps hk5 (fun hne e0 => HKS2.out hne (by rw [e0]; exact hxb))
          have hN2 := (HN1.out.below hE4.below).keeps hk5 (fun hne e0 => by have := hgN hne; rw [e0] at this; have := HD.out.lt e hxb; omega)
          have z0 : w4.cell? ⟨e, 0, none⟩ = some (.slice av SM cv) := by simp [World.cell?, h4]
          have z1 : w4.cell? ⟨e, 1, none⟩ = some (.int .i64 ((s1.fs e).sure : Int)) := by simp [World.cell?, h4]
          have zf : w4.frozen? ⟨e, 1, none⟩ = false := by simp [World.frozen?, h4]
          have HREL := hid (And.intro hD2 (And.intro hG2 (And.intro hst3 (And.intro hro2 (And.intro hkk (And.intro hR3 hN2))))))
          have HL2 := hid (hl2.trans HL1.out)
          have HM2 := hid (hm2.trans HM1.out)
          have HBB := hid (show ∀ g, s2.Blk p g → s.Blk p g from fun g h => HB1.out g (hB2 g h))
          clear hD2 ha2 hl2 hm2 hB2 hG2 hst3 hro2 hkk hR3 hN2 HST3 hE4 hk5 hk4 h4 hw4 x0 x1 xf0 xf1 hix hcn d0
          go_wp2
          go_roundw
          case rel => exact ⟨k + 1, s2, r, a2, g2, o2, c2, by omega, by go_num, rfl, hc2, hn2, HREL.out.2.2.2.2.2.1, HKS2.out, HREL.out.1, HL2.out, HM2.out, HREL.out.2.1, HREL.out.2.2.1, HREL.out.2.2.2.1, HBB.out, HREL.out.2.2.2.2.1, HREL.out.2.2.2.2.2.2⟩
          case measure => simp [intOf]; omega
    · have HF := hid (show ∃ s', Dk ((wr.setCell ⟨p, 3, none⟩ (.bool false)).setCell ⟨p, 2, none⟩ (.int .i64 (-1))) p s' ∧ s'.abs = bootA kp s.abs ∧ (∀ g, s'.Blk p g → s.Blk p g) ∧ Keeps (s.Blk p) w ((wr.setCell ⟨p, 3, none⟩ (.bool false)).setCell ⟨p, 2, none⟩ (.int .i64 (-1))) from by
        have hd := (hD1.setDown false).setFuse (-1)
        refine ⟨_, hd, ?_, hB1, (hK1.setCell (p := ⟨p, 3, none⟩) (fun _ => Or.inl rfl) _).setCell (p := ⟨p, 2, none⟩) (fun _ => Or.inl rfl) _⟩
        have h1 : NS.take k = NS := List.take_of_length_le (by omega)
        rw [h1] at hst
        unfold bootA
        rw [← HNS.out, hst]
        show (⟨s1.room, -1, false, s1.abs.l⟩ : AD) = ⟨s.room, -1, false, s1.abs.l⟩
        rw [hroom])
      obtain ⟨d0, d1, d2, d3⟩ := hD1.cells
      have f3 := hD1.free 3
      have f2 := hD1.free 2
      clear hR1 hk1 hl1 hm1 hG1 hst hroom hB1 hK1 hN1 hD1
      go_wp2
      go_end0
      exact ⟨rfl, HF.out⟩
end Go.Proofs.Ytopabknlgmihpaa
