/- The disk's deeds: Sync, Cut, Move, Remove. -/
import Derived.Test.YtopabknlgmihpaaDiskB
namespace Go.Proofs.Ytopabknlgmihpaa
open Go Go.RowKit Go.MapKept Go.ChangeMaps Go.Maps

/-- A file's content is turned, in its own row. -/
theorem Dk.fileSet {w0 w4 w5 : World} {p : Nat} {s : DkS} (h : Dk w4 p s) (hw : Below w0.heap.size w0 w4) {x : SKey × Nat} (hx : x ∈ s.l) (f : FileS) (he : w5.heap[x.2]? = some (.cells #[f.v, .int .i64 f.sure] 73 (0, 0))) (hk : Keeps (· = x.2) w4 w5) (ho : OwnB w4 f.v f.bs)
    (hrow : ∀ g, f.v.ownBlock = some g → (s.fs x.2).v.ownBlock = some g) : DkPost w0 p s (setA s.abs x.1 (f.bs, f.sure), 0) 0 w5 := by
  have hner : ∀ g, (s.fs x.2).v.ownBlock = some g → g ≠ x.2 := fun g hgg => (h.nr x hx g hgg).2.2.1 x hx
  have hd := h.setFile (w' := w5) hx (f := f) he (ho.keeps hk (fun g hg => hner g (hrow g hg))) (fun g hg => Or.inl (hrow g hg)) (fun g hgb hgx _ => hk.block g (h.lt g hgb) hgx)
  refine ⟨_, hd, ?_, rfl, fun g hgb => ?_, ?_⟩
  · unfold DkS.abs setA
    simp only
    rw [abs_set h.keys h.nde hx]
  · rcases hgb with rfl | rfl | ⟨y, hy, hyg⟩
    · exact Or.inl (Or.inl rfl)
    · exact Or.inl (Or.inr (Or.inl rfl))
    · rcases hyg with rfl | hyg
      · exact Or.inl (Or.inr (Or.inr ⟨y, hy, Or.inl rfl⟩))
      · by_cases hyx : y.2 = x.2
        · simp only [hyx, updF_same] at hyg
          exact Or.inl (Or.inr (Or.inr ⟨x, hx, Or.inr (hrow g hyg)⟩))
        · simp only [updF_other _ _ hyx] at hyg
          exact Or.inl (Or.inr (Or.inr ⟨y, hy, Or.inr hyg⟩))
  · exact (below_keeps hw).trans hk (fun g _ e => Or.inr (Or.inr ⟨x, hx, Or.inl e⟩))
theorem OwnB.cut {w : World} {av : Option Addr} {cv : Nat} {bs : List UInt8} (h : OwnB w (.slice av bs.length cv) bs) {k : Nat} (hk : k ≤ bs.length) : (∀ W, (Instr.slice 22 (.slice av bs.length cv) none (some (.int .i64 k)) (some (.int .i64 k))).run Try.prog W = .ok (.slice av k k) W) ∧ OwnB w (.slice av k k) (bs.take k) := by
  have hc : bs.length ≤ cv := by
    rcases h with ⟨h1, h2⟩ | ⟨g, cap, cur, h1, h2, h3, _⟩
    · simp only [Value.slice.injEq] at h1; omega
    · simp only [Value.slice.injEq] at h1; omega
  refine ⟨fun W => ?_, ?_⟩
  · have h1 : k ≤ cv := by omega
    cases av with
    | none => simp [Instr.slice, run_underlying Try.underlying22, sizeB, Instr.sliceBounds, Instr.sliceBound, asIntOf, h1]
    | some a => simp [Instr.slice, run_underlying Try.underlying22, sizeB, Instr.sliceBounds, Instr.sliceBound, asIntOf, h1, Addr.add]
  · rcases h with ⟨h1, h2⟩ | ⟨g, cap, cur, h1, h2, h3, h4, h5, h6⟩
    · simp only [Value.slice.injEq] at h1
      have : k = 0 := by omega
      subst this
      exact Or.inl ⟨by rw [h1.1], by simp⟩
    · simp only [Value.slice.injEq] at h1
      obtain ⟨rfl, _, rfl⟩ := h1
      refine Or.inr ⟨g, k, cur, by rw [List.length_take, Nat.min_eq_left hk], h2, by rw [List.length_take]; omega, by omega, by omega, ?_⟩
      rw [List.length_take, Nat.min_eq_left hk, List.map_take, ← h6, List.take_take, Nat.min_eq_left hk]
theorem Dk.named {w0 w4 w5 : World} {p : Nat} {s : DkS} (h : Dk w4 p s) (hw : Below w0.heap.size w0 w4) {l : List (SKey × Nat)} (hm : MapIs vS vP w5 s.m l) (hk : Keeps (· = s.m) w4 w5) (hd : l.Pairwise (fun x y => x.2 ≠ y.2)) (hsub : ∀ x ∈ l, ∃ y ∈ s.l, y.2 = x.2) :
    Dk w5 p { s with l := l } ∧ (∀ g, DkS.Blk { s with l := l } p g → s.Blk p g) ∧ Keeps (s.Blk p) w0 w5 := by
  refine ⟨h.setNames hm (fun g hg hgm => hk.block g (h.lt g hg) hgm) hd hsub, fun g hgb => ?_, (below_keeps hw).trans hk (fun g _ e => Or.inr (Or.inl e))⟩
  rcases hgb with rfl | rfl | ⟨x, hx, hxg⟩
  · exact Or.inl rfl
  · exact Or.inr (Or.inl rfl)
  · obtain ⟨y, hy, e⟩ := hsub x hx
    simp only [← e] at hxg
    exact Or.inr (Or.inr ⟨y, hy, hxg⟩)
theorem DkPost.after {w w4 : World} {p : Nat} {s s4 : DkS} {r : AD × Int} (hb : ∀ g, s4.Blk p g → s.Blk p g) (hk : Keeps (s.Blk p) w w4) {x : Int} {w' : World} (h : DkPost w4 p s4 r x w') : DkPost w p s r x w' := by
  obtain ⟨s', hD, ha, hx, hb', hk'⟩ := h
  exact ⟨s', hD, ha, hx, fun g hg => (hb' g hg).imp (hb g) (fun h1 => Nat.le_trans hk.size h1), hk.trans hk' (fun g _ hg => hb g hg)⟩
theorem pw_put {l : List (SKey × Nat)} (h : l.Pairwise (fun x y => x.2 ≠ y.2)) (hk : l.Pairwise (fun x y => x.1 ≠ y.1)) (t : SKey) {e : Nat} (he : ∀ y ∈ l, y.2 ≠ e) : (aput l t e).Pairwise (fun x y => x.2 ≠ y.2) := by
  unfold aput
  split
  · rw [List.pairwise_map]
    refine (h.and hk).imp_of_mem (fun {a b} ha hb hab => ?_)
    split
    · rename_i h1
      rw [if_neg (fun h2 => hab.2 (h1.trans h2.symm))]
      exact fun e0 => he b hb e0.symm
    · split
      · exact fun e0 => he a ha e0
      · exact hab.1
  · refine List.pairwise_append.2 ⟨h, List.pairwise_singleton _ _, fun a ha b hb => ?_⟩
    rw [List.mem_singleton] at hb
    subst hb
    exact he a ha
theorem abs_put (l : List (SKey × Nat)) (fs : Nat → FileS) (t : SKey) (e : Nat) : (aput l t e).map (fun x => (x.1, (fs x.2).bs, (fs x.2).sure)) = aput (l.map (fun x => (x.1, (fs x.2).bs, (fs x.2).sure))) t ((fs e).bs, (fs e).sure) := by
  unfold aput
  rw [ahas_abs]
  split
  · rw [List.map_map, List.map_map]
    refine List.map_congr_left (fun y hy => ?_)
    simp only [Function.comp]
    split <;> rfl
  · simp
theorem mem_put_self {κ β : Type} [DecidableEq κ] (l : List (κ × β)) (t : κ) (e : β) : (t, e) ∈ aput l t e := by
  unfold aput
  split
  · rename_i h
    obtain ⟨p, hp, hpt⟩ := ahas_iff.1 h
    exact List.mem_map.2 ⟨p, hp, by rw [if_pos hpt]⟩
  · simp
theorem put_put {κ β : Type} [DecidableEq κ] (l : List (κ × β)) (t : κ) (a b : β) : aput (aput l t a) t b = aput l t b := by
  have h : ahas (aput l t a) t = true := ahas_iff.2 ⟨_, mem_put_self l t a, rfl⟩
  rw [aput, if_pos h]
  unfold aput
  split
  · rw [List.map_map]
    refine List.map_congr_left (fun y hy => ?_)
    simp only [Function.comp]
    split <;> simp_all
  · rename_i hn
    rw [List.map_append]
    congr 1
    · conv => rhs; rw [← List.map_id l]
      refine List.map_congr_left (fun y hy => ?_)
      rw [if_neg (fun e0 => hn (ahas_iff.2 ⟨y, hy, e0⟩))]
      rfl
    · simp
theorem pw_del {l : List (SKey × Nat)} (h : l.Pairwise (fun x y => x.2 ≠ y.2)) (n : SKey) : (adel l n).Pairwise (fun x y => x.2 ≠ y.2) := h.sublist List.filter_sublist
set_option maxRecDepth 100000 in
set_option maxHeartbeats 3200000 in
theorem SyncCall_none (w : World) (pd pn p : Nat) (s : DkS) (n : SKey) (hD : Dk w p s) (hG : s.abs.Good) (kd : w.cell? ⟨pd, 0, none⟩ = some (.pointer (some ⟨p, 0, none⟩))) (kn : w.cell? ⟨pn, 0, none⟩ = some (.string n.1)) (hno : aget s.l n = none) :
    Calls Try.prog 39 #[.pointer (some ⟨pd, 0, none⟩), .pointer (some ⟨pn, 0, none⟩)] w (IntR (DkPost w p s (syncA n s.abs))) := by
  have hna : aget s.abs.l n = none := by unfold DkS.abs; rw [abs_get, hno]; rfl
  have hnh : ahas s.l n = false := by rw [ahas_eq, hno]; rfl
  have e1 : syncA n s.abs = (s.abs, 8) := by unfold syncA; rw [hna]
  rw [e1]
  obtain ⟨d0, d1, d2, d3⟩ := hD.cells
  have hlk0 := fun q => (hD.below (bdrewN (Below.refl w.heap.size w) q)).look n true
  simp only [if_true] at hlk0
  have HD := hid hD
  rw [hno, hnh] at hlk0
  simp only [Option.map_none, Option.getD_none] at hlk0
  clear hD hno hnh hna e1
  go_enter Try.func39, Try.ntmps39
  go_wp2
  go_quiet (fail)
  clear hlk0
  go_wp2
  go_ret
  exact IntR.mk (DkPost.same (HD.out.ext ((Ext.refl w).drewN _)) ((Ext.refl w).drewN _).below)
set_option maxRecDepth 100000 in
set_option maxHeartbeats 3200000 in
theorem SyncCall_some (w : World) (pd pn p : Nat) (s : DkS) (n : SKey) (hD : Dk w p s) (hG : s.abs.Good) (kd : w.cell? ⟨pd, 0, none⟩ = some (.pointer (some ⟨p, 0, none⟩))) (kn : w.cell? ⟨pn, 0, none⟩ = some (.string n.1)) (e : Nat) (hno : aget s.l n = some e) :
    Calls Try.prog 39 #[.pointer (some ⟨pd, 0, none⟩), .pointer (some ⟨pn, 0, none⟩)] w (IntR (DkPost w p s (syncA n s.abs))) := by
  have hna : aget s.abs.l n = some ((s.fs e).bs, (s.fs e).sure) := by unfold DkS.abs; rw [abs_get, hno]; rfl
  have hnh : ahas s.l n = true := by rw [ahas_eq, hno]; rfl
  have hx : (n, e) ∈ s.l := mem_of_get hno
  have hxl := hD.lt e (Or.inr (Or.inr ⟨(n, e), hx, Or.inl rfl⟩))
  obtain ⟨x0, x1⟩ := hD.ecells hx
  have xf0 := hD.efree hx 0
  have xf1 := hD.efree hx 1
  have hent := hD.ent _ hx
  have hown := hD.own _ hx
  obtain ⟨av, gv, ov, cv, hv, hcv, hrv, hnv⟩ := hown.rd
  have e1 : syncA n s.abs = (setA s.abs n ((s.fs e).bs, (s.fs e).bs.length), 0) := by unfold syncA; rw [hna]
  have hlen := (hG.len_get hna).2
  have hrm := hG.room.2
  simp only at hlen
  rw [e1]
  obtain ⟨d0, d1, d2, d3⟩ := hD.cells
  have hlk0 := fun q => (hD.below (bdrewN (Below.refl w.heap.size w) q)).look n true
  simp only [if_true] at hlk0
  have HD := hid hD
  rw [hno, hnh] at hlk0
  simp only [Option.map_some, Option.getD_some, vP] at hlk0
  simp only at hv x0 x1 hent hown
  have HX := hid hx
  have HV := hid hv
  have HE := hid hent
  have HO := hid hown
  rw [hv] at x0
  clear hD hno hnh hna e1 hx hent hown hv hrv hnv
  go_enter Try.func39, Try.ntmps39
  go_wp2
  go_quiet (fail)
  clear hlk0
  go_wp2
  go_ret
  have hW := (Ext.refl w).drewN nq
  exact IntR.mk ((HD.out.ext hW).fileSet (w0 := w) hW.below HX.out ⟨(s.fs e).v, (s.fs e).bs, (s.fs e).bs.length⟩ (by have := heap_setCell_at (w := w.drewN nq) (o := 1) HE.out (.int .i64 ((s.fs e).bs.length : Int)); simpa using this) (keeps_setCell _ _ _ _) (HO.out.ext hW) (fun g h => h))
set_option maxRecDepth 100000 in
set_option maxHeartbeats 3200000 in
theorem CutCall_none (w : World) (pd pn p : Nat) (s : DkS) (n : SKey) (hD : Dk w p s) (hG : s.abs.Good) (kd : w.cell? ⟨pd, 0, none⟩ = some (.pointer (some ⟨p, 0, none⟩))) (kn : w.cell? ⟨pn, 0, none⟩ = some (.string n.1)) (pk : Nat) (k : Int) (kk : w.cell? ⟨pk, 0, none⟩ = some (.int .i64 k)) (hpk : ¬ s.Blk p pk) (hno : aget s.l n = none) :
    Calls Try.prog 43 #[.pointer (some ⟨pd, 0, none⟩), .pointer (some ⟨pn, 0, none⟩), .pointer (some ⟨pk, 0, none⟩)] w (IntR (DkPost w p s (cutA n k s.abs))) := by
  have hna : aget s.abs.l n = none := by unfold DkS.abs; rw [abs_get, hno]; rfl
  have hnh : ahas s.l n = false := by rw [ahas_eq, hno]; rfl
  have e1 : cutA n k s.abs = (s.abs, 8) := by unfold cutA; rw [hna]
  rw [e1]
  obtain ⟨d0, d1, d2, d3⟩ := hD.cells
  have hlk0 := fun q => (hD.below (bdrewN (Below.refl w.heap.size w) q)).look n true
  simp only [if_true] at hlk0
  have HD := hid hD
  rw [hno, hnh] at hlk0
  simp only [Option.map_none, Option.getD_none] at hlk0
  clear hD hno hnh hna e1
  go_enter Try.func43, Try.ntmps43
  go_wp2
  go_quiet (fail)
  clear hlk0
  go_wp2
  go_ret
  exact IntR.mk (DkPost.same (HD.out.ext ((Ext.refl w).drewN _)) ((Ext.refl w).drewN _).below)
set_option maxRecDepth 100000 in
set_option maxHeartbeats 3200000 in
theorem CutCall_neg (w : World) (pd pn p : Nat) (s : DkS) (n : SKey) (hD : Dk w p s) (hG : s.abs.Good) (kd : w.cell? ⟨pd, 0, none⟩ = some (.pointer (some ⟨p, 0, none⟩))) (kn : w.cell? ⟨pn, 0, none⟩ = some (.string n.1)) (pk : Nat) (k : Int) (kk : w.cell? ⟨pk, 0, none⟩ = some (.int .i64 k)) (hpk : ¬ s.Blk p pk) (e : Nat) (hno : aget s.l n = some e) (hk : k < 0) :
    Calls Try.prog 43 #[.pointer (some ⟨pd, 0, none⟩), .pointer (some ⟨pn, 0, none⟩), .pointer (some ⟨pk, 0, none⟩)] w (IntR (DkPost w p s (cutA n k s.abs))) := by
  have hna : aget s.abs.l n = some ((s.fs e).bs, (s.fs e).sure) := by unfold DkS.abs; rw [abs_get, hno]; rfl
  have hnh : ahas s.l n = true := by rw [ahas_eq, hno]; rfl
  have hx : (n, e) ∈ s.l := mem_of_get hno
  have hxl := hD.lt e (Or.inr (Or.inr ⟨(n, e), hx, Or.inl rfl⟩))
  obtain ⟨x0, x1⟩ := hD.ecells hx
  have xf0 := hD.efree hx 0
  have xf1 := hD.efree hx 1
  have hent := hD.ent _ hx
  have hown := hD.own _ hx
  obtain ⟨av, gv, ov, cv, hv, hcv, hrv, hnv⟩ := hown.rd
  have e1 : cutA n k s.abs = (s.abs, 6) := by unfold cutA; rw [hna]; exact if_pos (Or.inl hk)
  have hlen := (hG.len_get hna).2
  have hrm := hG.room.2
  simp only at hlen
  rw [e1]
  obtain ⟨d0, d1, d2, d3⟩ := hD.cells
  have hlk0 := fun q => (hD.below (bdrewN (Below.refl w.heap.size w) q)).look n true
  simp only [if_true] at hlk0
  have HD := hid hD
  rw [hno, hnh] at hlk0
  simp only [Option.map_some, Option.getD_some, vP] at hlk0
  simp only at hv x0 x1 hent hown
  have HX := hid hx
  have HV := hid hv
  have HE := hid hent
  have HO := hid hown
  rw [hv] at x0
  clear hD hno hnh hna e1 hx hent hown hv hrv hnv
  go_enter Try.func43, Try.ntmps43
  go_wp2
  go_quiet (fail)
  rename Nat => n1
  clear hlk0
  have hdk : decide (k < 0) = true := by simpa using hk
  go_wp2
  go_quiet (fail)
  go_wp2
  go_ret
  exact IntR.mk (DkPost.same (HD.out.ext (((Ext.refl w).drewN _).drewN _)) (((Ext.refl w).drewN _).drewN _).below)
set_option maxRecDepth 100000 in
set_option maxHeartbeats 3200000 in
theorem CutCall_high (w : World) (pd pn p : Nat) (s : DkS) (n : SKey) (hD : Dk w p s) (hG : s.abs.Good) (kd : w.cell? ⟨pd, 0, none⟩ = some (.pointer (some ⟨p, 0, none⟩))) (kn : w.cell? ⟨pn, 0, none⟩ = some (.string n.1)) (pk : Nat) (k : Int) (kk : w.cell? ⟨pk, 0, none⟩ = some (.int .i64 k)) (hpk : ¬ s.Blk p pk) (e : Nat) (hno : aget s.l n = some e) (hk : ¬ k < 0) (hk2 : ((s.fs e).bs.length : Int) < k) :
    Calls Try.prog 43 #[.pointer (some ⟨pd, 0, none⟩), .pointer (some ⟨pn, 0, none⟩), .pointer (some ⟨pk, 0, none⟩)] w (IntR (DkPost w p s (cutA n k s.abs))) := by
  have hna : aget s.abs.l n = some ((s.fs e).bs, (s.fs e).sure) := by unfold DkS.abs; rw [abs_get, hno]; rfl
  have hnh : ahas s.l n = true := by rw [ahas_eq, hno]; rfl
  have hx : (n, e) ∈ s.l := mem_of_get hno
  have hxl := hD.lt e (Or.inr (Or.inr ⟨(n, e), hx, Or.inl rfl⟩))
  obtain ⟨x0, x1⟩ := hD.ecells hx
  have xf0 := hD.efree hx 0
  have xf1 := hD.efree hx 1
  have hent := hD.ent _ hx
  have hown := hD.own _ hx
  obtain ⟨av, gv, ov, cv, hv, hcv, hrv, hnv⟩ := hown.rd
  have e1 : cutA n k s.abs = (s.abs, 6) := by unfold cutA; rw [hna]; exact if_pos (Or.inr hk2)
  have hlen := (hG.len_get hna).2
  have hrm := hG.room.2
  simp only at hlen
  rw [e1]
  obtain ⟨d0, d1, d2, d3⟩ := hD.cells
  have hlk0 := fun q => (hD.below (bdrewN (Below.refl w.heap.size w) q)).look n true
  simp only [if_true] at hlk0
  have HD := hid hD
  rw [hno, hnh] at hlk0
  simp only [Option.map_some, Option.getD_some, vP] at hlk0
  simp only at hv x0 x1 hent hown
  have HX := hid hx
  have HV := hid hv
  have HE := hid hent
  have HO := hid hown
  rw [hv] at x0
  clear hD hno hnh hna e1 hx hent hown hv hrv hnv
  go_enter Try.func43, Try.ntmps43
  go_wp2
  go_quiet (fail)
  rename Nat => n1
  clear hlk0
  have hdk : decide (k < 0) = false := by simpa using hk
  go_wp2
  go_quiet (fail)
  go_wp2
  go_ret
  exact IntR.mk (DkPost.same (HD.out.ext (((Ext.refl w).drewN _).drewN _)) (((Ext.refl w).drewN _).drewN _).below)
set_option maxRecDepth 100000 in
set_option maxHeartbeats 3200000 in
theorem CutCall_fine (w : World) (pd pn p : Nat) (s : DkS) (n : SKey) (hD : Dk w p s) (hG : s.abs.Good) (kd : w.cell? ⟨pd, 0, none⟩ = some (.pointer (some ⟨p, 0, none⟩))) (kn : w.cell? ⟨pn, 0, none⟩ = some (.string n.1)) (pk : Nat) (k : Int) (kk : w.cell? ⟨pk, 0, none⟩ = some (.int .i64 k)) (hpk : ¬ s.Blk p pk) (e : Nat) (hno : aget s.l n = some e) (hk : ¬ k < 0) (hk2 : ¬ ((s.fs e).bs.length : Int) < k) :
    Calls Try.prog 43 #[.pointer (some ⟨pd, 0, none⟩), .pointer (some ⟨pn, 0, none⟩), .pointer (some ⟨pk, 0, none⟩)] w (IntR (DkPost w p s (cutA n k s.abs))) := by
  have hna : aget s.abs.l n = some ((s.fs e).bs, (s.fs e).sure) := by unfold DkS.abs; rw [abs_get, hno]; rfl
  have hnh : ahas s.l n = true := by rw [ahas_eq, hno]; rfl
  have hx : (n, e) ∈ s.l := mem_of_get hno
  have hxl := hD.lt e (Or.inr (Or.inr ⟨(n, e), hx, Or.inl rfl⟩))
  obtain ⟨x0, x1⟩ := hD.ecells hx
  have xf0 := hD.efree hx 0
  have xf1 := hD.efree hx 1
  have hent := hD.ent _ hx
  have hown := hD.own _ hx
  obtain ⟨av, gv, ov, cv, hv, hcv, hrv, hnv⟩ := hown.rd
  have e1 : cutA n k s.abs = (setA s.abs n ((s.fs e).bs.take k.toNat, k.toNat), 0) := by unfold cutA; rw [hna]; exact if_neg (by simp only; omega)
  have hlen := (hG.len_get hna).2
  have hrm := hG.room.2
  simp only at hlen
  rw [e1]
  obtain ⟨d0, d1, d2, d3⟩ := hD.cells
  have hlk0 := fun q => (hD.below (bdrewN (Below.refl w.heap.size w) q)).look n true
  simp only [if_true] at hlk0
  have HD := hid hD
  rw [hno, hnh] at hlk0
  simp only [Option.map_some, Option.getD_some, vP] at hlk0
  simp only at hv x0 x1 hent hown
  have HX := hid hx
  have HV := hid hv
  have HE := hid hent
  have HO := hid hown
  rw [hv] at x0
  clear hD hno hnh hna e1 hx hent hown hv hrv hnv
  go_enter Try.func43, Try.ntmps43
  go_wp2
  go_quiet (fail)
  rename Nat => n1
  clear hlk0
  have hdk : decide (k < 0) = false := by simpa using hk
  go_wp2
  go_quiet (fail)
  obtain ⟨kn', rfl⟩ : ∃ m : Nat, k = (m : Int) := ⟨k.toNat, by omega⟩
  have hle : kn' ≤ (s.fs e).bs.length := by omega
  have hoc : OwnB w (.slice av (s.fs e).bs.length cv) (s.fs e).bs := by rw [← HV.out]; exact HO.out
  obtain ⟨hsl, hcut⟩ := hoc.cut hle
  have HCUT := hid hcut
  clear hcut hoc
  have hW : Ext w (w.drewN (n1 + nq + 1)) := (Ext.refl w).drewN _
  have HP := hid ((HD.out.ext hW).fileSet (w0 := w) (w5 := ((w.drewN (n1 + nq + 1)).setCell ⟨e, 0, none⟩ (.slice av kn' kn')).setCell ⟨e, 1, none⟩ (.int .i64 kn')) hW.below HX.out ⟨.slice av kn' kn', (s.fs e).bs.take kn', kn'⟩ (by
      have h1 := heap_setCell_at (w := w.drewN (n1 + nq + 1)) (o := 0) HE.out (.slice av kn' kn')
      have h2 := heap_setCell_at (o := 1) h1 (.int .i64 kn')
      simpa using h2) (((Keeps.refl (· = e) _).setCell (p := ⟨e, 0, none⟩) (fun _ => rfl) _).setCell (p := ⟨e, 1, none⟩) (fun _ => rfl) _) (HCUT.out.ext hW) (fun g h => by rw [HV.out]; cases av with | none => cases h | some a => exact h))
  clear hW
  have hpe : pk ≠ e := fun e0 => hpk (Or.inr (Or.inr ⟨(n, e), HX.out, Or.inl e0⟩))
  have hC1 : (fun W : World => W.cell? ⟨pk, 0, none⟩ = some (.int .i64 (kn' : Int))) ((w.drewN (n1 + nq + 1)).setCell ⟨e, 0, none⟩ (.slice av kn' kn')) := ((keeps_setCell (w.drewN (n1 + nq + 1)) e 0 (.slice av kn' kn')).cell (fun e0 => hpe e0) kk)
  have hC2 : (fun W : World => W.cell? ⟨pk, 0, none⟩ = some (.int .i64 (kn' : Int))) (((w.drewN (n1 + nq + 1)).setCell ⟨e, 0, none⟩ (.slice av kn' kn')).setCell ⟨e, 1, none⟩ (.int .i64 (kn' : Int))) := ((keeps_setCell _ e 1 _).cell (fun e0 => hpe e0) hC1)
  have hC0 : (fun W : World => W.cell? ⟨pk, 0, none⟩ = some (.int .i64 (kn' : Int))) (w.drewN (n1 + nq + 1)) := kk
  go_wp2_with fail
  refine wp_region_C (fun W : World => W.cell? ⟨pk, 0, none⟩ = some (.int .i64 (kn' : Int))) (by kernel_rfl) ?_
  refine takeC (i := 0) (v := ?_) rfl (by kernel_rfl) (by kernel_rfl) (by kernel_rfl) (fun _ _ _ h => h) (by assumption) (Or.inl ⟨?_, ?_⟩) (fun K hK => ?_)
  rotate_left
  · rfl
  · (intro W hW; skip; go_simp; first | done | with_reducible rfl)
  (try go_simp)
  refine hK _ _ ?_
  clear hK K
  refine takeC (i := 1) (v := ?_) rfl (by kernel_rfl) (by kernel_rfl) (by kernel_rfl) (fun _ _ _ h => h) (by assumption) (Or.inl ⟨?_, ?_⟩) (fun K hK => ?_)
  rotate_left
  · rfl
  · (intro W hW; skip; go_simp; first | done | with_reducible rfl)
  (try go_simp)
  refine hK _ _ ?_
  clear hK K
  refine takeC (i := 2) (v := ?_) rfl (by kernel_rfl) (by kernel_rfl) (by kernel_rfl) (fun _ _ _ h => h) (by assumption) (Or.inl ⟨?_, ?_⟩) (fun K hK => ?_)
  rotate_left
  · rfl
  · (intro W hW; skip; go_simp; first | done | with_reducible rfl)
  (try go_simp)
  refine hK _ _ ?_
  clear hK K
  refine takeC (i := 3) (v := ?_) rfl (by kernel_rfl) (by kernel_rfl) (by kernel_rfl) (fun _ _ _ h => h) (by assumption) (Or.inl ⟨?_, ?_⟩) (fun K hK => ?_)
  rotate_left
  · rfl
  · (intro W hW; skip; go_simp; first | done | with_reducible rfl)
  (try go_simp)
  refine hK _ _ ?_
  clear hK K
  refine takeC (i := 4) (v := ?_) rfl (by kernel_rfl) (by kernel_rfl) (by kernel_rfl) (fun _ _ _ h => h) (by assumption) (Or.inl ⟨?_, ?_⟩) (fun K hK => ?_)
  rotate_left
  · rfl
  · (intro W hW; skip; go_simp; first | done | with_reducible rfl)
  (try go_simp)
  refine hK _ _ ?_
  clear hK K
  refine takeC (i := 6) (v := ?_) rfl (by kernel_rfl) (by kernel_rfl) (by kernel_rfl) (fun _ _ _ h => h) (by assumption) (Or.inl ⟨?_, ?_⟩) (fun K hK => ?_)
  rotate_left
  · rfl
  · (intro W hW; skip; go_simp; first | done | with_reducible rfl)
  (try go_simp)
  refine hK _ _ ?_
  clear hK K
  refine takeC (i := 7) (v := ?_) rfl (by kernel_rfl) (by kernel_rfl) (by kernel_rfl) (fun _ _ _ h => h) (by assumption) (Or.inl ⟨?_, ?_⟩) (fun K hK => ?_)
  rotate_left
  · rfl
  · (intro W hW; skip; go_simp; first | done | with_reducible rfl)
  (try go_simp)
  refine hK _ _ ?_
  clear hK K
  refine takeC (i := 9) (v := ?_) rfl (by kernel_rfl) (by kernel_rfl) (by kernel_rfl) (fun _ _ _ h => h) (by assumption) (Or.inl ⟨?_, ?_⟩) (fun K hK => ?_)
  rotate_left
  · rfl
  · (intro W hW; skip; go_simp; first | done | with_reducible rfl)
  (try go_simp)
  refine hK _ _ ?_
  clear hK K
  refine callC (k := 5) (by kernel_rfl) rfl ?_ (fun K hK => ?_)
  · rfl
  go_simp
  refine hK _ _ (by assumption) ?_
  clear hK K
  refine takeC (i := 8) (v := ?_) rfl (by kernel_rfl) (by kernel_rfl) (by kernel_rfl) (fun _ _ _ h => h) (by assumption) (Or.inl ⟨?_, ?_⟩) (fun K hK => ?_)
  rotate_left
  · rfl
  · (intro W hW; skip; go_simp; first | done | with_reducible rfl)
  (try go_simp)
  refine hK _ _ ?_
  clear hK K
  refine takeC (i := 10) (v := ?_) rfl (by kernel_rfl) (by kernel_rfl) (by kernel_rfl) (fun _ _ _ h => h) (by assumption) (Or.inl ⟨?_, ?_⟩) (fun K hK => ?_)
  rotate_left
  · rfl
  · (intro W hW; skip; go_simp; first | done | with_reducible rfl)
  (try go_simp)
  refine hK _ _ ?_
  clear hK K
  refine takeC (i := 11) (v := ?_) rfl (by kernel_rfl) (by kernel_rfl) (by kernel_rfl) (fun _ _ _ h => h) (by assumption) (Or.inl ⟨?_, ?_⟩) (fun K hK => ?_)
  rotate_left
  · rfl
  · (intro W hW; skip; go_simp; first | done | with_reducible rfl)
  (try go_simp)
  refine hK _ _ ?_
  clear hK K
  refine callC (k := 12) (by kernel_rfl) rfl ?_ (fun K hK => ?_)
  · rfl
  go_simp
  refine hK _ _ (by assumption) ?_
  clear hK K
  refine callC (k := 13) (by kernel_rfl) rfl ?_ (fun K hK => ?_)
  · rfl
  go_simp
  refine hK _ _ (by assumption) ?_
  clear hK K
  refine callC (k := 14) (by kernel_rfl) rfl ?_ (fun K hK => ?_)
  · rfl
  go_simp
  refine hK _ _ (by assumption) ?_
  clear hK K
  refine callC (k := 15) (by kernel_rfl) rfl ?_ (fun K hK => ?_)
  · rfl
  go_simp
  refine hK _ _ (by assumption) ?_
  clear hK K
  refine doneC (by kernel_rfl) ?_
  clear hC0 hC1 hC2
  go_wp2
  go_ret
  exact IntR.mk (by have h := HP.out; simpa only [Int.toNat_natCast] using h)
set_option maxRecDepth 100000 in
set_option maxHeartbeats 3200000 in
theorem MoveCall_none (w : World) (pd pn p : Nat) (s : DkS) (n : SKey) (hD : Dk w p s) (hG : s.abs.Good) (kd : w.cell? ⟨pd, 0, none⟩ = some (.pointer (some ⟨p, 0, none⟩))) (kn : w.cell? ⟨pn, 0, none⟩ = some (.string n.1)) (pt : Nat) (t : SKey) (kt : w.cell? ⟨pt, 0, none⟩ = some (.string t.1)) (hbn : ¬ s.Blk p pn ∧ ¬ s.Blk p pt ∧ ¬ s.Blk p pd) (hno : aget s.l n = none) :
    Calls Try.prog 44 #[.pointer (some ⟨pd, 0, none⟩), .pointer (some ⟨pn, 0, none⟩), .pointer (some ⟨pt, 0, none⟩)] w (IntR (DkPost w p s (moveA n t s.abs))) := by
  have hna : aget s.abs.l n = none := by unfold DkS.abs; rw [abs_get, hno]; rfl
  have hnh : ahas s.l n = false := by rw [ahas_eq, hno]; rfl
  have e1 : moveA n t s.abs = (s.abs, 8) := by unfold moveA; rw [hna]
  rw [e1]
  obtain ⟨d0, d1, d2, d3⟩ := hD.cells
  have hlk0 := fun q => (hD.below (bdrewN (Below.refl w.heap.size w) q)).look n true
  simp only [if_true] at hlk0
  have HD := hid hD
  rw [hno, hnh] at hlk0
  simp only [Option.map_none, Option.getD_none] at hlk0
  clear hD hno hnh hna e1
  go_enter Try.func44, Try.ntmps44
  go_wp2
  go_quiet (fail)
  clear hlk0
  go_wp2
  go_ret
  exact IntR.mk (DkPost.same (HD.out.ext ((Ext.refl w).drewN _)) ((Ext.refl w).drewN _).below)
set_option maxRecDepth 100000 in
set_option maxHeartbeats 3200000 in
theorem MoveCall_bad (w : World) (pd pn p : Nat) (s : DkS) (n : SKey) (hD : Dk w p s) (hG : s.abs.Good) (kd : w.cell? ⟨pd, 0, none⟩ = some (.pointer (some ⟨p, 0, none⟩))) (kn : w.cell? ⟨pn, 0, none⟩ = some (.string n.1)) (pt : Nat) (t : SKey) (kt : w.cell? ⟨pt, 0, none⟩ = some (.string t.1)) (hbn : ¬ s.Blk p pn ∧ ¬ s.Blk p pt ∧ ¬ s.Blk p pd) (e : Nat) (hno : aget s.l n = some e) (hnm : nameB t.1 = false) :
    Calls Try.prog 44 #[.pointer (some ⟨pd, 0, none⟩), .pointer (some ⟨pn, 0, none⟩), .pointer (some ⟨pt, 0, none⟩)] w (IntR (DkPost w p s (moveA n t s.abs))) := by
  have hna : aget s.abs.l n = some ((s.fs e).bs, (s.fs e).sure) := by unfold DkS.abs; rw [abs_get, hno]; rfl
  have hnh : ahas s.l n = true := by rw [ahas_eq, hno]; rfl
  have hx : (n, e) ∈ s.l := mem_of_get hno
  have hxl := hD.lt e (Or.inr (Or.inr ⟨(n, e), hx, Or.inl rfl⟩))
  obtain ⟨x0, x1⟩ := hD.ecells hx
  have xf0 := hD.efree hx 0
  have xf1 := hD.efree hx 1
  have hent := hD.ent _ hx
  have hown := hD.own _ hx
  obtain ⟨av, gv, ov, cv, hv, hcv, hrv, hnv⟩ := hown.rd
  have e1 : moveA n t s.abs = (s.abs, 1) := by unfold moveA; rw [hna]; exact if_pos hnm
  have hlen := (hG.len_get hna).2
  have hrm := hG.room.2
  simp only at hlen
  rw [e1]
  obtain ⟨d0, d1, d2, d3⟩ := hD.cells
  have hlk0 := fun q => (hD.below (bdrewN (Below.refl w.heap.size w) q)).look n true
  simp only [if_true] at hlk0
  have HD := hid hD
  rw [hno, hnh] at hlk0
  simp only [Option.map_some, Option.getD_some, vP] at hlk0
  simp only at hv x0 x1 hent hown
  have HX := hid hx
  have HV := hid hv
  have HE := hid hent
  have HO := hid hown
  have HNO := hid hno
  rw [hv] at x0
  have HN : Hid (∀ W, Calls Try.prog 37 #[.string t.1] W fun e w' => e = .returned (.bool false) ∧ Below W.heap.size W w') := fun W => by
    have := isName_any W t.1 t.2
    rw [hnm] at this
    exact this
  clear hD hno hnh hna e1 hx hent hown hv hrv hnv
  go_enter Try.func44, Try.ntmps44
  go_wp2
  go_quiet (fail)
  clear hlk0
  go_wp2_with fail
  refine (HN.out _).mono ?_
  rintro e0 w2 ⟨rfl, hb2⟩
  have hB2 : Below w.heap.size w w2 := (bdrewN (Below.refl w.heap.size w) nq).trans (hb2.mono (Nat.le_of_eq rfl))
  clear hb2
  have HB := hid hB2
  clear hB2
  go_wp2
  go_ret
  exact IntR.mk (DkPost.same (HD.out.below HB.out) HB.out)
set_option maxRecDepth 100000 in
set_option maxHeartbeats 3200000 in
theorem MoveCall_fine (w : World) (pd pn p : Nat) (s : DkS) (n : SKey) (hD : Dk w p s) (hG : s.abs.Good) (kd : w.cell? ⟨pd, 0, none⟩ = some (.pointer (some ⟨p, 0, none⟩))) (kn : w.cell? ⟨pn, 0, none⟩ = some (.string n.1)) (pt : Nat) (t : SKey) (kt : w.cell? ⟨pt, 0, none⟩ = some (.string t.1)) (hbn : ¬ s.Blk p pn ∧ ¬ s.Blk p pt ∧ ¬ s.Blk p pd) (e : Nat) (hno : aget s.l n = some e) (hnm : nameB t.1 = true) :
    Calls Try.prog 44 #[.pointer (some ⟨pd, 0, none⟩), .pointer (some ⟨pn, 0, none⟩), .pointer (some ⟨pt, 0, none⟩)] w (IntR (DkPost w p s (moveA n t s.abs))) := by
  have hna : aget s.abs.l n = some ((s.fs e).bs, (s.fs e).sure) := by unfold DkS.abs; rw [abs_get, hno]; rfl
  have hnh : ahas s.l n = true := by rw [ahas_eq, hno]; rfl
  have hx : (n, e) ∈ s.l := mem_of_get hno
  have hxl := hD.lt e (Or.inr (Or.inr ⟨(n, e), hx, Or.inl rfl⟩))
  obtain ⟨x0, x1⟩ := hD.ecells hx
  have xf0 := hD.efree hx 0
  have xf1 := hD.efree hx 1
  have hent := hD.ent _ hx
  have hown := hD.own _ hx
  obtain ⟨av, gv, ov, cv, hv, hcv, hrv, hnv⟩ := hown.rd
  have e1 : moveA n t s.abs = ({ s.abs with l := aput (adel s.abs.l n) t ((s.fs e).bs, (s.fs e).bs.length) }, 0) := by unfold moveA; rw [hna]; exact if_neg (by rw [hnm]; simp)
  have hlen := (hG.len_get hna).2
  have hrm := hG.room.2
  simp only at hlen
  rw [e1]
  obtain ⟨d0, d1, d2, d3⟩ := hD.cells
  have hlk0 := fun q => (hD.below (bdrewN (Below.refl w.heap.size w) q)).look n true
  simp only [if_true] at hlk0
  have HD := hid hD
  rw [hno, hnh] at hlk0
  simp only [Option.map_some, Option.getD_some, vP] at hlk0
  simp only at hv x0 x1 hent hown
  have HX := hid hx
  have HV := hid hv
  have HE := hid hent
  have HO := hid hown
  have HNO := hid hno
  rw [hv] at x0
  have HN : Hid (∀ W, Calls Try.prog 37 #[.string t.1] W fun e w' => e = .returned (.bool true) ∧ Below W.heap.size W w') := fun W => by
    have := isName_any W t.1 t.2
    rw [hnm] at this
    exact this
  clear hD hno hnh hna e1 hx hent hown hv hrv hnv
  go_enter Try.func44, Try.ntmps44
  go_wp2
  go_quiet (fail)
  clear hlk0
  go_wp2_with fail
  refine (HN.out _).mono ?_
  rintro e0 w2 ⟨rfl, hb2⟩
  have hB2 : Below w.heap.size w w2 := (bdrewN (Below.refl w.heap.size w) nq).trans (hb2.mono (Nat.le_of_eq rfl))
  clear hb2
  have hml := HD.out.files.lt
  have hD2 := HD.out.below hB2
  have hnl := World.block_lt_of_cell? _ _ kn
  have hdl := World.block_lt_of_cell? _ _ kd
  have htl := World.block_lt_of_cell? _ _ kt
  have hpl := World.block_lt_of_cell? _ _ d0
  have hs2 := hB2.size
  have hne := HD.out.ne (n, e) HX.out
  simp only at hne
  have k1 : w2.cell? ⟨pd, 0, none⟩ = some (.pointer (some ⟨p, 0, none⟩)) := (hB2.cell (p := ⟨pd, 0, none⟩) hdl).trans kd
  have k2 : w2.cell? ⟨pn, 0, none⟩ = some (.string n.1) := (hB2.cell (p := ⟨pn, 0, none⟩) hnl).trans kn
  have k3 : w2.cell? ⟨pt, 0, none⟩ = some (.string t.1) := (hB2.cell (p := ⟨pt, 0, none⟩) htl).trans kt
  have k4 : w2.cell? ⟨p, 0, none⟩ = some (.map (some s.m)) := (hB2.cell (p := ⟨p, 0, none⟩) hpl).trans d0
  have k5 : w2.cell? ⟨e, 0, none⟩ = some (.slice av (s.fs e).bs.length cv) := (hB2.cell (p := ⟨e, 0, none⟩) hxl).trans x0
  have k6 : w2.cell? ⟨e, 1, none⟩ = some (.int .i64 (s.fs e).sure) := (hB2.cell (p := ⟨e, 1, none⟩) hxl).trans x1
  have hm2 : MapIs vS vP w2.drew s.m s.l := hD2.files
  obtain ⟨es, ec, hdr, hr⟩ := hm2.drop keyS Try.underlying65 (ty := 0) n
  simp only [vS] at hdr
  have HB := hid hB2
  have HD2 := hid hD2
  have HR := hid hr
  clear hB2 hD2 hm2 hr x0 x1 xf0 xf1 d0 d1 d2 d3 kd kn kt
  go_wp2
  go_region
  have hk3 : Keeps (· = s.m) w2 (setBlock w2.drew s.m (.map es ec)) := ((Keeps.refl (· = s.m) w2).drew).setBlock (fun _ => rfl) _
  obtain ⟨w3, hw3⟩ : ∃ w3, w3 = setBlock w2.drew s.m (.map es ec) := ⟨_, rfl⟩
  have hm3 := HR.out
  rw [← hw3] at hk3 hm3 ⊢
  replace k1 := hk3.cell (fun e0 => hbn.2.2 (Or.inr (Or.inl e0))) k1
  replace k2 := hk3.cell (fun e0 => hbn.1 (Or.inr (Or.inl e0))) k2
  replace k3 := hk3.cell (fun e0 => hbn.2.1 (Or.inr (Or.inl e0))) k3
  replace k4 := hk3.cell (fun e0 => HD.out.npm e0) k4
  replace k5 := hk3.cell (fun e0 => hne.2 e0) k5
  replace k6 := hk3.cell (fun e0 => hne.2 e0) k6
  have hm3' : MapIs vS vP w3.drew s.m (adel s.l n) := hm3
  obtain ⟨es2, ec2, hu, hr2⟩ := hm3'.update keyS Try.underlying65 t e
  simp only [vS, vP] at hu
  have HR2 := hid hr2
  have HK3 := hid hk3
  clear hm3 hm3' hk3 hr2 hdr HR hw3
  go_wp2
  go_region
  have hk4 : Keeps (· = s.m) w3 (setBlock w3.drew s.m (.map es2 ec2)) := ((Keeps.refl (· = s.m) w3).drew).setBlock (fun _ => rfl) _
  obtain ⟨w4, hw4⟩ : ∃ w4, w4 = setBlock w3.drew s.m (.map es2 ec2) := ⟨_, rfl⟩
  have hm4 := HR2.out
  rw [← hw4] at hk4 hm4 ⊢
  replace k5 := hk4.cell (fun e0 => hne.2 e0) k5
  replace k6 := hk4.cell (fun e0 => hne.2 e0) k6
  have hk24 : Keeps (· = s.m) w2 w4 := HK3.out.trans hk4 (fun _ _ h => h)
  have h4e : w4.heap[e]? = some (.cells #[(s.fs e).v, .int .i64 (s.fs e).sure] 73 (0, 0)) := (hk24.block e (by omega) (fun e0 => hne.2 e0)).trans (HD2.out.ent _ HX.out)
  have k7 : w4.frozen? ⟨e, 1, none⟩ = false := by simp [World.frozen?, h4e]
  have hny : ∀ y ∈ adel s.l n, y.2 ≠ e := fun y hy e0 => by
    have h1 := (List.mem_filter.1 hy)
    have h2 := HD.out.entry_eq h1.1 HX.out e0
    rw [h2] at h1
    simp at h1
  have hkd : (adel s.l n).Pairwise (fun x y => x.1 ≠ y.1) := keys_del HD.out.keys n
  obtain ⟨hd4, hb4, hk4'⟩ := HD2.out.named (w0 := w) HB.out hm4 hk24 (pw_put (pw_del HD.out.nde n) hkd t hny) (fun x hx => by
    rcases mem_put hx with rfl | hx
    · exact ⟨(n, e), HX.out, rfl⟩
    · exact ⟨x, mem_del hx, rfl⟩)
  have hP := hd4.fileSet (w0 := w4) (w5 := w4.setCell ⟨e, 1, none⟩ (.int .i64 (s.fs e).bs.length)) (Below.refl _ _) (x := (t, e)) (mem_put_self _ _ _) ⟨(s.fs e).v, (s.fs e).bs, (s.fs e).bs.length⟩ (by have := heap_setCell_at (o := 1) h4e (.int .i64 ((s.fs e).bs.length : Int)); simpa using this) (keeps_setCell _ _ _ _) (hd4.own (t, e) (mem_put_self _ _ _)) (fun g h => h)
  have hQ := hP.after hb4 hk4'
  have he2 : setA (DkS.abs { s with l := aput (adel s.l n) t e }) t ((s.fs e).bs, (s.fs e).bs.length) = { s.abs with l := aput (adel s.abs.l n) t ((s.fs e).bs, (s.fs e).bs.length) } := by
    unfold setA DkS.abs
    simp only
    rw [abs_put, put_put, abs_del]
  rw [he2] at hQ
  have HQ := hid hQ
  clear hQ hP hd4 hb4 hk4' hm4 hk4 hk24 h4e hw4 hu HR2 k1 k2 k3 k4 hny hkd he2
  go_wp2
  go_ret
  exact IntR.mk HQ.out
set_option maxRecDepth 100000 in
set_option maxHeartbeats 3200000 in
theorem RemoveCall_none (w : World) (pd pn p : Nat) (s : DkS) (n : SKey) (hD : Dk w p s) (hG : s.abs.Good) (kd : w.cell? ⟨pd, 0, none⟩ = some (.pointer (some ⟨p, 0, none⟩))) (kn : w.cell? ⟨pn, 0, none⟩ = some (.string n.1)) (hno : aget s.l n = none) :
    Calls Try.prog 63 #[.pointer (some ⟨pd, 0, none⟩), .pointer (some ⟨pn, 0, none⟩)] w (IntR (DkPost w p s (removeA n s.abs))) := by
  have hna : aget s.abs.l n = none := by unfold DkS.abs; rw [abs_get, hno]; rfl
  have hnh : ahas s.l n = false := by rw [ahas_eq, hno]; rfl
  have e1 : removeA n s.abs = (s.abs, 8) := by unfold removeA; rw [hna]
  rw [e1]
  obtain ⟨d0, d1, d2, d3⟩ := hD.cells
  have hlk0 := fun q => (hD.below (bdrewN (Below.refl w.heap.size w) q)).look n false
  simp only [Bool.false_eq_true, if_false] at hlk0
  have HD := hid hD
  rw [hno] at hlk0
  simp only [Option.map_none, Option.getD_none] at hlk0
  clear hD hno hnh hna e1
  go_enter Try.func63, Try.ntmps63
  go_wp2
  go_quiet (fail)
  clear hlk0
  go_wp2
  go_ret
  exact IntR.mk (DkPost.same (HD.out.ext ((Ext.refl w).drewN _)) ((Ext.refl w).drewN _).below)
set_option maxRecDepth 100000 in
set_option maxHeartbeats 3200000 in
theorem RemoveCall_some (w : World) (pd pn p : Nat) (s : DkS) (n : SKey) (hD : Dk w p s) (hG : s.abs.Good) (kd : w.cell? ⟨pd, 0, none⟩ = some (.pointer (some ⟨p, 0, none⟩))) (kn : w.cell? ⟨pn, 0, none⟩ = some (.string n.1)) (hbn : ¬ s.Blk p pn ∧ ¬ s.Blk p pd) (e : Nat) (hno : aget s.l n = some e) :
    Calls Try.prog 63 #[.pointer (some ⟨pd, 0, none⟩), .pointer (some ⟨pn, 0, none⟩)] w (IntR (DkPost w p s (removeA n s.abs))) := by
  have hna : aget s.abs.l n = some ((s.fs e).bs, (s.fs e).sure) := by unfold DkS.abs; rw [abs_get, hno]; rfl
  have e1 : removeA n s.abs = ({ s.abs with l := adel s.abs.l n }, 0) := by unfold removeA; rw [hna]
  rw [e1]
  obtain ⟨d0, d1, d2, d3⟩ := hD.cells
  have hlk0 := fun q => (hD.below (bdrewN (Below.refl w.heap.size w) q)).look n false
  simp only [Bool.false_eq_true, if_false] at hlk0
  have HD := hid hD
  rw [hno] at hlk0
  simp only [Option.map_some, Option.getD_some, vP] at hlk0
  have hml := HD.out.files.lt
  have hdr0 := fun q => (HD.out.below (bdrewN (Below.refl w.heap.size w) q)).files.drop (P := Try.prog) keyS Try.underlying65 (ty := 0) n
  simp only [vS] at hdr0
  clear hD hno hna e1
  go_enter Try.func63, Try.ntmps63
  go_wp2
  go_quiet (fail)
  clear hlk0
  obtain ⟨es, ec, hdr, hr⟩ := hdr0 (nq + 1)
  clear hdr0
  have HR := hid hr
  clear hr
  go_wp2
  go_region
  go_wp2
  go_ret
  have hW := (Ext.refl w).drewN (nq + 1)
  obtain ⟨hd4, hb4, hk4⟩ := (HD.out.ext hW).named (w0 := w) hW.below HR.out ((Keeps.refl (· = s.m) _).setBlock (fun _ => rfl) _) (pw_del HD.out.nde n) (fun x hx => ⟨x, mem_del hx, rfl⟩)
  refine IntR.mk ⟨_, hd4, ?_, rfl, fun g hg => Or.inl (hb4 g hg), hk4⟩
  unfold DkS.abs
  simp only
  rw [abs_del]

theorem SyncCall_any (w : World) (pd pn p : Nat) (s : DkS) (n : SKey) (hD : Dk w p s) (hG : s.abs.Good) (kd : w.cell? ⟨pd, 0, none⟩ = some (.pointer (some ⟨p, 0, none⟩))) (kn : w.cell? ⟨pn, 0, none⟩ = some (.string n.1)) : Calls Try.prog 39 #[.pointer (some ⟨pd, 0, none⟩), .pointer (some ⟨pn, 0, none⟩)] w (IntR (DkPost w p s (syncA n s.abs))) := by
  cases hno : aget s.l n with
  | none => exact SyncCall_none w pd pn p s n hD hG kd kn hno
  | some e => exact SyncCall_some w pd pn p s n hD hG kd kn e hno
theorem CutCall_any (w : World) (pd pn p : Nat) (s : DkS) (n : SKey) (hD : Dk w p s) (hG : s.abs.Good) (kd : w.cell? ⟨pd, 0, none⟩ = some (.pointer (some ⟨p, 0, none⟩))) (kn : w.cell? ⟨pn, 0, none⟩ = some (.string n.1)) (pk : Nat) (k : Int) (kk : w.cell? ⟨pk, 0, none⟩ = some (.int .i64 k)) (hpk : ¬ s.Blk p pk) : Calls Try.prog 43 #[.pointer (some ⟨pd, 0, none⟩), .pointer (some ⟨pn, 0, none⟩), .pointer (some ⟨pk, 0, none⟩)] w (IntR (DkPost w p s (cutA n k s.abs))) := by
  cases hno : aget s.l n with
  | none => exact CutCall_none w pd pn p s n hD hG kd kn pk k kk hpk hno
  | some e =>
    by_cases hk : k < 0
    · exact CutCall_neg w pd pn p s n hD hG kd kn pk k kk hpk e hno hk
    · by_cases hk2 : ((s.fs e).bs.length : Int) < k
      · exact CutCall_high w pd pn p s n hD hG kd kn pk k kk hpk e hno hk hk2
      · exact CutCall_fine w pd pn p s n hD hG kd kn pk k kk hpk e hno hk hk2
theorem MoveCall_any (w : World) (pd pn p : Nat) (s : DkS) (n : SKey) (hD : Dk w p s) (hG : s.abs.Good) (kd : w.cell? ⟨pd, 0, none⟩ = some (.pointer (some ⟨p, 0, none⟩))) (kn : w.cell? ⟨pn, 0, none⟩ = some (.string n.1)) (pt : Nat) (t : SKey) (kt : w.cell? ⟨pt, 0, none⟩ = some (.string t.1)) (hbn : ¬ s.Blk p pn ∧ ¬ s.Blk p pt ∧ ¬ s.Blk p pd) : Calls Try.prog 44 #[.pointer (some ⟨pd, 0, none⟩), .pointer (some ⟨pn, 0, none⟩), .pointer (some ⟨pt, 0, none⟩)] w (IntR (DkPost w p s (moveA n t s.abs))) := by
  cases hno : aget s.l n with
  | none => exact MoveCall_none w pd pn p s n hD hG kd kn pt t kt hbn hno
  | some e =>
    cases hnm : nameB t.1 with
    | false => exact MoveCall_bad w pd pn p s n hD hG kd kn pt t kt hbn e hno hnm
    | true => exact MoveCall_fine w pd pn p s n hD hG kd kn pt t kt hbn e hno hnm
theorem RemoveCall_any (w : World) (pd pn p : Nat) (s : DkS) (n : SKey) (hD : Dk w p s) (hG : s.abs.Good) (kd : w.cell? ⟨pd, 0, none⟩ = some (.pointer (some ⟨p, 0, none⟩))) (kn : w.cell? ⟨pn, 0, none⟩ = some (.string n.1)) (hbn : ¬ s.Blk p pn ∧ ¬ s.Blk p pd) : Calls Try.prog 63 #[.pointer (some ⟨pd, 0, none⟩), .pointer (some ⟨pn, 0, none⟩)] w (IntR (DkPost w p s (removeA n s.abs))) := by
  cases hno : aget s.l n with
  | none => exact RemoveCall_none w pd pn p s n hD hG kd kn hno
  | some e => exact RemoveCall_some w pd pn p s n hD hG kd kn hbn e hno
set_option maxRecDepth 100000 in
set_option maxHeartbeats 3200000 in
theorem DiskSync_any (w : World) (p : Nat) (s : DkS) (n : SKey) (hD : Dk w p s) (hG : s.abs.Good) :
    Calls Try.prog 13 #[.pointer (some ⟨p, 0, none⟩), .string n.1] w (IntR (DkPost w p s (deedA (syncA n) s.abs))) := by
  have hmf : ∀ (fn : Fn) (first cap : Array Value) (w : World), (Instr.makeFunc fn first cap).run Try.prog w = .ok (.func fn first cap) w := fun _ _ _ _ => rfl
  have eg : ∀ args W, (callFunc 39 args).run Try.prog W = .ok (.enter 39 args) W := enters_of Try.func39 (by kernel_rfl) rfl
  have hE : Ext w ((w.alloc (.cells #[.pointer (some ⟨p, 0, none⟩)] 24)).alloc (.cells #[.string n.1] 9)) := (((Ext.refl w).alloc _).alloc _)
  have hI := deed_any ((w.alloc (.cells #[.pointer (some ⟨p, 0, none⟩)] 24)).alloc (.cells #[.string n.1] 9)) p s (hD.ext hE) hG (syncA n) 39 #[.pointer (some ⟨w.heap.size, 0, none⟩), .pointer (some ⟨w.heap.size + 1, 0, none⟩)] eg (fun W s1 hW ha hbk hk => by
    have hpl := hD.lt p (Or.inl rfl)
    refine SyncCall_any W (w.heap.size) (w.heap.size + 1) p s1 n hW (by rw [ha]; exact hG.burnt) (hk.cell (by omega) (by simp)) (hk.cell (by omega) (by simp)))
  have HI := hid (hI.mono fun e w' h => h.mono fun x hx => DkPost.boxed hE hx)
  clear hI eg hE hG hD
  go_enter Try.func13, Try.ntmps13
  go_wp2_with fail
  refine HI.out.mono ?_
  rintro e w2 ⟨x, rfl, hx⟩
  have HX := hid hx
  clear hx HI
  go_wp2
  go_ret
  exact IntR.mk HX.out
set_option maxRecDepth 100000 in
set_option maxHeartbeats 3200000 in
theorem DiskCut_any (w : World) (p : Nat) (s : DkS) (n : SKey) (k : Int) (hD : Dk w p s) (hG : s.abs.Good) :
    Calls Try.prog 19 #[.pointer (some ⟨p, 0, none⟩), .string n.1, .int .i64 k] w (IntR (DkPost w p s (deedA (cutA n k) s.abs))) := by
  have hmf : ∀ (fn : Fn) (first cap : Array Value) (w : World), (Instr.makeFunc fn first cap).run Try.prog w = .ok (.func fn first cap) w := fun _ _ _ _ => rfl
  have eg : ∀ args W, (callFunc 43 args).run Try.prog W = .ok (.enter 43 args) W := enters_of Try.func43 (by kernel_rfl) rfl
  have hE : Ext w (((w.alloc (.cells #[.pointer (some ⟨p, 0, none⟩)] 24)).alloc (.cells #[.string n.1] 9)).alloc (.cells #[.int .i64 k] 3)) := ((((Ext.refl w).alloc _).alloc _).alloc _)
  have hI := deed_any (((w.alloc (.cells #[.pointer (some ⟨p, 0, none⟩)] 24)).alloc (.cells #[.string n.1] 9)).alloc (.cells #[.int .i64 k] 3)) p s (hD.ext hE) hG (cutA n k) 43 #[.pointer (some ⟨w.heap.size, 0, none⟩), .pointer (some ⟨w.heap.size + 1, 0, none⟩), .pointer (some ⟨w.heap.size + 1 + 1, 0, none⟩)] eg (fun W s1 hW ha hbk hk => by
    have hpl := hD.lt p (Or.inl rfl)
    refine CutCall_any W (w.heap.size) (w.heap.size + 1) p s1 n hW (by rw [ha]; exact hG.burnt) (hk.cell (by omega) ((box3 w _ _ _ _ _ _ 0).1.trans rfl)) (hk.cell (by omega) ((box3 w _ _ _ _ _ _ 0).2.1.trans rfl)) (w.heap.size + 1 + 1) k (hk.cell (by omega) ((box3 w _ _ _ _ _ _ 0).2.2.trans rfl)) (hD.blk_lt hbk (by omega)))
  have HI := hid (hI.mono fun e w' h => h.mono fun x hx => DkPost.boxed hE hx)
  clear hI eg hE hG hD
  go_enter Try.func19, Try.ntmps19
  go_wp2_with fail
  refine HI.out.mono ?_
  rintro e w2 ⟨x, rfl, hx⟩
  have HX := hid hx
  clear hx HI
  go_wp2
  go_ret
  exact IntR.mk HX.out
set_option maxRecDepth 100000 in
set_option maxHeartbeats 3200000 in
theorem DiskMove_any (w : World) (p : Nat) (s : DkS) (n t : SKey) (hD : Dk w p s) (hG : s.abs.Good) :
    Calls Try.prog 21 #[.pointer (some ⟨p, 0, none⟩), .string n.1, .string t.1] w (IntR (DkPost w p s (deedA (moveA n t) s.abs))) := by
  have hmf : ∀ (fn : Fn) (first cap : Array Value) (w : World), (Instr.makeFunc fn first cap).run Try.prog w = .ok (.func fn first cap) w := fun _ _ _ _ => rfl
  have eg : ∀ args W, (callFunc 44 args).run Try.prog W = .ok (.enter 44 args) W := enters_of Try.func44 (by kernel_rfl) rfl
  have hE : Ext w (((w.alloc (.cells #[.pointer (some ⟨p, 0, none⟩)] 24)).alloc (.cells #[.string n.1] 9)).alloc (.cells #[.string t.1] 9)) := ((((Ext.refl w).alloc _).alloc _).alloc _)
  have hI := deed_any (((w.alloc (.cells #[.pointer (some ⟨p, 0, none⟩)] 24)).alloc (.cells #[.string n.1] 9)).alloc (.cells #[.string t.1] 9)) p s (hD.ext hE) hG (moveA n t) 44 #[.pointer (some ⟨w.heap.size, 0, none⟩), .pointer (some ⟨w.heap.size + 1, 0, none⟩), .pointer (some ⟨w.heap.size + 1 + 1, 0, none⟩)] eg (fun W s1 hW ha hbk hk => by
    have hpl := hD.lt p (Or.inl rfl)
    refine MoveCall_any W (w.heap.size) (w.heap.size + 1) p s1 n hW (by rw [ha]; exact hG.burnt) (hk.cell (by omega) ((box3 w _ _ _ _ _ _ 0).1.trans rfl)) (hk.cell (by omega) ((box3 w _ _ _ _ _ _ 0).2.1.trans rfl)) (w.heap.size + 1 + 1) t (hk.cell (by omega) ((box3 w _ _ _ _ _ _ 0).2.2.trans rfl)) ⟨(hD.blk_lt hbk (by omega)), (hD.blk_lt hbk (by omega)), (hD.blk_lt hbk (by omega))⟩)
  have HI := hid (hI.mono fun e w' h => h.mono fun x hx => DkPost.boxed hE hx)
  clear hI eg hE hG hD
  go_enter Try.func21, Try.ntmps21
  go_wp2_with fail
  refine HI.out.mono ?_
  rintro e w2 ⟨x, rfl, hx⟩
  have HX := hid hx
  clear hx HI
  go_wp2
  go_ret
  exact IntR.mk HX.out
set_option maxRecDepth 100000 in
set_option maxHeartbeats 3200000 in
theorem DiskRemove_any (w : World) (p : Nat) (s : DkS) (n : SKey) (hD : Dk w p s) (hG : s.abs.Good) :
    Calls Try.prog 45 #[.pointer (some ⟨p, 0, none⟩), .string n.1] w (IntR (DkPost w p s (deedA (removeA n) s.abs))) := by
  have hmf : ∀ (fn : Fn) (first cap : Array Value) (w : World), (Instr.makeFunc fn first cap).run Try.prog w = .ok (.func fn first cap) w := fun _ _ _ _ => rfl
  have eg : ∀ args W, (callFunc 63 args).run Try.prog W = .ok (.enter 63 args) W := enters_of Try.func63 (by kernel_rfl) rfl
  have hE : Ext w ((w.alloc (.cells #[.pointer (some ⟨p, 0, none⟩)] 24)).alloc (.cells #[.string n.1] 9)) := (((Ext.refl w).alloc _).alloc _)
  have hI := deed_any ((w.alloc (.cells #[.pointer (some ⟨p, 0, none⟩)] 24)).alloc (.cells #[.string n.1] 9)) p s (hD.ext hE) hG (removeA n) 63 #[.pointer (some ⟨w.heap.size, 0, none⟩), .pointer (some ⟨w.heap.size + 1, 0, none⟩)] eg (fun W s1 hW ha hbk hk => by
    have hpl := hD.lt p (Or.inl rfl)
    refine RemoveCall_any W (w.heap.size) (w.heap.size + 1) p s1 n hW (by rw [ha]; exact hG.burnt) (hk.cell (by omega) (by simp)) (hk.cell (by omega) (by simp)) ⟨(hD.blk_lt hbk (by omega)), (hD.blk_lt hbk (by omega))⟩)
  have HI := hid (hI.mono fun e w' h => h.mono fun x hx => DkPost.boxed hE hx)
  clear hI eg hE hG hD
  go_enter Try.func45, Try.ntmps45
  go_wp2_with fail
  refine HI.out.mono ?_
  rintro e w2 ⟨x, rfl, hx⟩
  have HX := hid hx
  clear hx HI
  go_wp2
  go_ret
  exact IntR.mk HX.out
end Go.Proofs.Ytopabknlgmihpaa
