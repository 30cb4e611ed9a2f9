/- The disk's deeds: Append. -/
import Derived.Test.YtopabknlgmihpaaDiskP
import Derived.Test.YtopabknlgmihpaaDiskN
import Derived.Test.YtopabknlgmihpaaRegion
import Derived.IntWalk
namespace Go.Proofs.Ytopabknlgmihpaa
open Go Go.RowKit Go.MapKept Go.ChangeMaps Go.Maps

/-- Behind a deed: the disk is what was said, in its own blocks and in new ones; the answer is the number that was said. -/
def DkPost (W : World) (p : Nat) (s : DkS) (r : AD × Int) (x : Int) (W' : World) : Prop := ∃ s', Dk W' p s' ∧ s'.abs = r.1 ∧ x = r.2 ∧ (∀ g, s'.Blk p g → s.Blk p g ∨ W.heap.size ≤ g) ∧ Keeps (s.Blk p) W W'
theorem DkPost.same {W W' : World} {p : Nat} {s : DkS} {x : Int} (h : Dk W' p s) (k : Below W.heap.size W W') : DkPost W p s (s.abs, x) x W' := ⟨s, h, rfl, rfl, fun _ hg => Or.inl hg, below_keeps k⟩
theorem deed_any (w : World) (p : Nat) (s : DkS) (h : Dk w p s) (hG : s.abs.Good) (f : AD → AD × Int) (K : Nat) (cap : Array Value) (eg : ∀ args W, (callFunc K args).run Try.prog W = .ok (.enter K args) W)
    (hcl : ∀ W s1, Dk W p s1 → s1.abs = { s.abs with fuse := burn s.fuse } → (∀ g, s1.Blk p g ↔ s.Blk p g) → Keeps (· = p) w W → Calls Try.prog K cap W (IntR (DkPost W p s1 (f s1.abs)))) :
    Calls Try.prog 35 #[.pointer (some ⟨p, 0, none⟩), .func (.func K) #[] cap] w (IntR (DkPost w p s (deedA f s.abs))) := by
  by_cases hd : s.down = true ∨ s.fuse = 0
  · have e1 : deedA f s.abs = ({ s.abs with down := true }, 15) := by unfold deedA; exact if_pos hd
    rw [e1]
    refine (deed_dead w p s h hd _).mono fun e w' hI => hI.mono fun x hx => ?_
    obtain ⟨rfl, hD, hk⟩ := hx
    exact ⟨_, hD, rfl, rfl, fun g hg => Or.inl hg, hk.mono (fun g _ e => Or.inl e)⟩
  · have e1 : deedA f s.abs = f { s.abs with fuse := burn s.fuse } := by unfold deedA; exact if_neg hd
    rw [e1]
    have h1 : s.down = false := by cases hs : s.down <;> simp_all
    refine deed_live w p s h h1 (fun e => hd (Or.inr e)) hG.fuse.1 hG.fuse.2 K cap eg _ (fun W hW hk => ?_)
    refine (hcl W _ hW rfl (fun g => Iff.rfl) hk).mono fun e w' hI => hI.mono fun x hx => ?_
    obtain ⟨s', hD, ha, hx, hb, hk2⟩ := hx
    refine ⟨s', hD, ha, hx, fun g hg => ?_, ?_⟩
    · rcases hb g hg with h2 | h2
      · exact Or.inl h2
      · exact Or.inr (Nat.le_trans hk.size h2)
    · exact (hk.mono (T := s.Blk p) (fun g _ e => Or.inl e)).trans hk2 (fun g _ e => e)
theorem zeroP (w : World) : (zeroValue 69).run Try.prog w = .ok (.pointer none) w := by kernel_rfl
theorem Dk.look {w : World} {p : Nat} {s : DkS} (h : Dk w p s) (n : SKey) (c : Bool) :
    (Instr.lookup 65 (.map (some s.m)) (.string n.1) c).run Try.prog w = .ok (if c then .tuple #[((aget s.l n).map vP).getD (.pointer none), .bool (ahas s.l n)] else ((aget s.l n).map vP).getD (.pointer none)) w :=
  h.files.lookup keyS Try.underlying65 (zeroP w) n c
set_option maxRecDepth 100000 in
set_option maxHeartbeats 3200000 in
theorem AppendCall_bad (w : World) (pd pn pb p : Nat) (s : DkS) (n : SKey) (a : Option Addr) (g off cap : Nat) (bs : List UInt8) (hD : Dk w p s) (hG : s.abs.Good) (kd : w.cell? ⟨pd, 0, none⟩ = some (.pointer (some ⟨p, 0, none⟩))) (kn : w.cell? ⟨pn, 0, none⟩ = some (.string n.1)) (kb : w.cell? ⟨pb, 0, none⟩ = some (.slice a bs.length cap)) (hb : RdS encB 1 w a g off bs) (hbl : bs.length ≤ 1073741824) (hbs : bs ≠ [] → ¬ s.Blk p g) (hbn : ¬ s.Blk p pn ∧ ¬ s.Blk p pb ∧ ¬ s.Blk p pd) (hbad : nameB n.1 = false) :
    Calls Try.prog 36 #[.pointer (some ⟨pd, 0, none⟩), .pointer (some ⟨pn, 0, none⟩), .pointer (some ⟨pb, 0, none⟩)] w (IntR (DkPost w p s (appendA n bs s.abs))) := by
  have e1 : appendA n bs s.abs = (s.abs, 1) := by unfold appendA; exact if_pos hbad
  rw [e1]
  have hTl : totL s.abs.l ≤ 1073741824 := by have := hG.tot; have := hG.room; omega
  obtain ⟨d0, d1, d2, d3⟩ := hD.cells
  have hlk := fun W (hW : Below w.heap.size w W) => (hD.below hW).look n true
  have hpl := World.block_lt_of_cell? _ _ d0
  have hdl := World.block_lt_of_cell? _ _ kd
  have hnl := World.block_lt_of_cell? _ _ kn
  have hbl2 := World.block_lt_of_cell? _ _ kb
  have HFF : Hid (∀ W, Below w.heap.size w W → W.cell? ⟨pd, 0, none⟩ = some (.pointer (some ⟨p, 0, none⟩)) ∧ W.cell? ⟨pn, 0, none⟩ = some (.string n.1) ∧ W.cell? ⟨pb, 0, none⟩ = some (.slice a bs.length cap) ∧ W.cell? ⟨p, 0, none⟩ = some (.map (some s.m)) ∧ W.cell? ⟨p, 1, none⟩ = some (.int .i64 s.room)) := fun W hW => ⟨(hW.cell (p := ⟨pd, 0, none⟩) hdl).trans kd, (hW.cell (p := ⟨pn, 0, none⟩) hnl).trans kn, (hW.cell (p := ⟨pb, 0, none⟩) hbl2).trans kb, (hW.cell (p := ⟨p, 0, none⟩) hpl).trans d0, (hW.cell (p := ⟨p, 1, none⟩) hpl).trans d1⟩
  have HT : Hid (∀ W, Below w.heap.size w W → Calls Try.prog 38 #[.pointer (some ⟨p, 0, none⟩)] W fun e w' => e = .returned (.int .i64 (totL s.abs.l)) ∧ Ext W w') := fun W hW => total_any W p s (hD.below hW) (by rw [sumF_abs]; exact hTl)
  have HN : Hid (∀ W, Calls Try.prog 37 #[.string n.1] W fun e w' => e = .returned (.bool (nameB n.1)) ∧ Below W.heap.size W w') := fun W => isName_any W n.1 n.2

  have hlk0 := fun q => hlk (w.drewN q) (bdrewN (Below.refl _ _) q)
  simp only [if_true] at hlk0
  rw [hbad] at HN
  have HD := hid hD
  obtain ⟨x, hx⟩ : ∃ x, x = ((aget s.l n).map vP).getD (.pointer none) := ⟨_, rfl⟩
  obtain ⟨y, hy⟩ : ∃ y, y = ahas s.l n := ⟨_, rfl⟩
  rw [← hx, ← hy] at hlk0
  clear hlk hD hx hy
  go_enter Try.func36, Try.ntmps36
  go_wp2
  go_quiet (fail)
  go_wp2_with fail
  refine (HN.out _).mono ?_
  rintro e w2 ⟨rfl, hb2⟩
  have hC2 : (fun W => Below w.heap.size w W) w2 := (bdrewN (Below.refl w.heap.size w) nq).trans (hb2.mono (Nat.le_of_eq rfl))
  clear hb2 hlk0
  have HB := hid hC2
  clear hC2
  go_wp2
  go_ret
  exact IntR.mk (DkPost.same (HD.out.below HB.out) HB.out)
set_option maxRecDepth 100000 in
set_option maxHeartbeats 3200000 in
theorem AppendCall_full (w : World) (pd pn pb p : Nat) (s : DkS) (n : SKey) (a : Option Addr) (g off cap : Nat) (bs : List UInt8) (hD : Dk w p s) (hG : s.abs.Good) (kd : w.cell? ⟨pd, 0, none⟩ = some (.pointer (some ⟨p, 0, none⟩))) (kn : w.cell? ⟨pn, 0, none⟩ = some (.string n.1)) (kb : w.cell? ⟨pb, 0, none⟩ = some (.slice a bs.length cap)) (hb : RdS encB 1 w a g off bs) (hbl : bs.length ≤ 1073741824) (hbs : bs ≠ [] → ¬ s.Blk p g) (hbn : ¬ s.Blk p pn ∧ ¬ s.Blk p pb ∧ ¬ s.Blk p pd) (hok : nameB n.1 = true) (hfull : s.room - (totL s.abs.l : Int) < (bs.length : Int)) :
    Calls Try.prog 36 #[.pointer (some ⟨pd, 0, none⟩), .pointer (some ⟨pn, 0, none⟩), .pointer (some ⟨pb, 0, none⟩)] w (IntR (DkPost w p s (appendA n bs s.abs))) := by
  have e1 : appendA n bs s.abs = (s.abs, 7) := by unfold appendA; rw [if_neg (by rw [hok]; simp), if_pos (show s.abs.room - (totL s.abs.l : Int) < (bs.length : Int) from hfull)]
  rw [e1]
  have hTl : totL s.abs.l ≤ 1073741824 := by have := hG.tot; have := hG.room; omega
  obtain ⟨d0, d1, d2, d3⟩ := hD.cells
  have hlk := fun W (hW : Below w.heap.size w W) => (hD.below hW).look n true
  have hpl := World.block_lt_of_cell? _ _ d0
  have hdl := World.block_lt_of_cell? _ _ kd
  have hnl := World.block_lt_of_cell? _ _ kn
  have hbl2 := World.block_lt_of_cell? _ _ kb
  have HFF : Hid (∀ W, Below w.heap.size w W → W.cell? ⟨pd, 0, none⟩ = some (.pointer (some ⟨p, 0, none⟩)) ∧ W.cell? ⟨pn, 0, none⟩ = some (.string n.1) ∧ W.cell? ⟨pb, 0, none⟩ = some (.slice a bs.length cap) ∧ W.cell? ⟨p, 0, none⟩ = some (.map (some s.m)) ∧ W.cell? ⟨p, 1, none⟩ = some (.int .i64 s.room)) := fun W hW => ⟨(hW.cell (p := ⟨pd, 0, none⟩) hdl).trans kd, (hW.cell (p := ⟨pn, 0, none⟩) hnl).trans kn, (hW.cell (p := ⟨pb, 0, none⟩) hbl2).trans kb, (hW.cell (p := ⟨p, 0, none⟩) hpl).trans d0, (hW.cell (p := ⟨p, 1, none⟩) hpl).trans d1⟩
  have HT : Hid (∀ W, Below w.heap.size w W → Calls Try.prog 38 #[.pointer (some ⟨p, 0, none⟩)] W fun e w' => e = .returned (.int .i64 (totL s.abs.l)) ∧ Ext W w') := fun W hW => total_any W p s (hD.below hW) (by rw [sumF_abs]; exact hTl)
  have HN : Hid (∀ W, Calls Try.prog 37 #[.string n.1] W fun e w' => e = .returned (.bool (nameB n.1)) ∧ Below W.heap.size W w') := fun W => isName_any W n.1 n.2

  have hlk0 := fun q => hlk (w.drewN q) (bdrewN (Below.refl _ _) q)
  simp only [if_true] at hlk0

  obtain ⟨hr0, hr1⟩ := hG.room
  have htot := hG.tot
  have hra : s.abs.room = s.room := rfl
  rw [hra] at hr0 hr1 htot
  obtain ⟨T, hT⟩ : ∃ T, T = totL s.abs.l := ⟨_, rfl⟩
  rw [← hT] at htot hTl HT
  rw [← hT] at hfull
  rw [hok] at HN
  have HD := hid hD
  obtain ⟨x, hx⟩ : ∃ x, x = ((aget s.l n).map vP).getD (.pointer none) := ⟨_, rfl⟩
  obtain ⟨y, hy⟩ : ∃ y, y = ahas s.l n := ⟨_, rfl⟩
  rw [← hx, ← hy] at hlk0
  clear hlk hD hx hy hT
  go_enter Try.func36, Try.ntmps36
  go_wp2
  go_quiet (fail)
  go_wp2_with fail
  refine (HN.out _).mono ?_
  rintro e w2 ⟨rfl, hb2⟩
  have hC2 : (fun W => Below w.heap.size w W) w2 := (bdrewN (Below.refl w.heap.size w) nq).trans (hb2.mono (Nat.le_of_eq rfl))
  clear hb2 hlk0

  go_wp2_with fail
  refine wp_region_C (fun W => Below w.heap.size w W) (by kernel_rfl) ?_
  have hC3 : (fun W => Below w.heap.size w W) w2.drew := bdrewN hC2 1
  clear hC2
  refine takeC (i := 0) (v := ?_) rfl (by kernel_rfl) (by kernel_rfl) (by kernel_rfl) (fun _ _ _ h => h) (by assumption) (Or.inl ⟨?_, ?_⟩) (fun K hK => ?_)
  rotate_left
  · rfl
  · (intro W hW; obtain ⟨k1, k2, k3, k4, k5⟩ := HFF.out W hW; go_simp; first | done | with_reducible rfl)
  (try go_simp)
  refine hK _ _ ?_
  clear hK K
  refine takeC (i := 1) (v := ?_) rfl (by kernel_rfl) (by kernel_rfl) (by kernel_rfl) (fun _ _ _ h => h) (by assumption) (Or.inl ⟨?_, ?_⟩) (fun K hK => ?_)
  rotate_left
  · rfl
  · (intro W hW; obtain ⟨k1, k2, k3, k4, k5⟩ := HFF.out W hW; go_simp; first | done | with_reducible rfl)
  (try go_simp)
  refine hK _ _ ?_
  clear hK K
  refine takeC (i := 2) (v := ?_) rfl (by kernel_rfl) (by kernel_rfl) (by kernel_rfl) (fun _ _ _ h => h) (by assumption) (Or.inl ⟨?_, ?_⟩) (fun K hK => ?_)
  rotate_left
  · rfl
  · (intro W hW; obtain ⟨k1, k2, k3, k4, k5⟩ := HFF.out W hW; go_simp; first | done | with_reducible rfl)
  (try go_simp)
  refine hK _ _ ?_
  clear hK K
  refine takeC (i := 3) (v := ?_) rfl (by kernel_rfl) (by kernel_rfl) (by kernel_rfl) (fun _ _ _ h => h) (by assumption) (Or.inl ⟨?_, ?_⟩) (fun K hK => ?_)
  rotate_left
  · rfl
  · (intro W hW; obtain ⟨k1, k2, k3, k4, k5⟩ := HFF.out W hW; go_simp; first | done | with_reducible rfl)
  (try go_simp)
  refine hK _ _ ?_
  clear hK K
  refine takeC (i := 4) (v := ?_) rfl (by kernel_rfl) (by kernel_rfl) (by kernel_rfl) (fun _ _ _ h => h) (by assumption) (Or.inl ⟨?_, ?_⟩) (fun K hK => ?_)
  rotate_left
  · rfl
  · (intro W hW; obtain ⟨k1, k2, k3, k4, k5⟩ := HFF.out W hW; go_simp; first | done | with_reducible rfl)
  (try go_simp)
  refine hK _ _ ?_
  clear hK K
  refine takeC (i := 5) (v := ?_) rfl (by kernel_rfl) (by kernel_rfl) (by kernel_rfl) (fun _ _ _ h => h) (by assumption) (Or.inl ⟨?_, ?_⟩) (fun K hK => ?_)
  rotate_left
  · rfl
  · (intro W hW; obtain ⟨k1, k2, k3, k4, k5⟩ := HFF.out W hW; go_simp; first | done | with_reducible rfl)
  (try go_simp)
  refine hK _ _ ?_
  clear hK K
  refine takeC (i := 6) (v := ?_) rfl (by kernel_rfl) (by kernel_rfl) (by kernel_rfl) (fun _ _ _ h => h) (by assumption) (Or.inl ⟨?_, ?_⟩) (fun K hK => ?_)
  rotate_left
  · rfl
  · (intro W hW; obtain ⟨k1, k2, k3, k4, k5⟩ := HFF.out W hW; go_simp; first | done | with_reducible rfl)
  (try go_simp)
  refine hK _ _ ?_
  clear hK K
  refine callC (k := 7) (by kernel_rfl) rfl ?_ (fun K hK => ?_)
  · rfl
  go_simp
  refine (HT.out _ hC3).mono ?_
  rintro e w4 ⟨rfl, hE4⟩
  have hC4 : (fun W => Below w.heap.size w W) w4 := hC3.trans (hE4.below.mono hC3.size)
  clear hE4 hC3
  go_wp2
  refine hK _ _ hC4 ?_
  clear hK K
  have hwr : IntKind.i64.wrap (s.room - (T : Int)) = s.room - (T : Int) := IntWalk.i64_in _ (by omega)
  refine takeC (i := 8) (v := ?_) rfl (by kernel_rfl) (by kernel_rfl) (by kernel_rfl) (fun _ _ _ h => h) (by assumption) (Or.inl ⟨?_, ?_⟩) (fun K hK => ?_)
  rotate_left
  · rfl
  · (intro W hW; obtain ⟨k1, k2, k3, k4, k5⟩ := HFF.out W hW; go_simp; first | done | with_reducible rfl)
  (try go_simp)
  refine hK _ _ ?_
  clear hK K
  refine takeC (i := 9) (v := ?_) rfl (by kernel_rfl) (by kernel_rfl) (by kernel_rfl) (fun _ _ _ h => h) (by assumption) (Or.inl ⟨?_, ?_⟩) (fun K hK => ?_)
  rotate_left
  · rfl
  · (intro W hW; obtain ⟨k1, k2, k3, k4, k5⟩ := HFF.out W hW; go_simp; first | done | with_reducible rfl)
  (try go_simp)
  refine hK _ _ ?_
  clear hK K
  refine takeC (i := 10) (v := ?_) rfl (by kernel_rfl) (by kernel_rfl) (by kernel_rfl) (fun _ _ _ h => h) (by assumption) (Or.inl ⟨?_, ?_⟩) (fun K hK => ?_)
  rotate_left
  · rfl
  · (intro W hW; obtain ⟨k1, k2, k3, k4, k5⟩ := HFF.out W hW; go_simp; first | done | with_reducible rfl)
  (try go_simp)
  refine hK _ _ ?_
  clear hK K
  refine doneC (by kernel_rfl) ?_
  clear hwr
  have HB := hid hC4
  clear hC4
  go_wp2
  go_ret
  exact IntR.mk (DkPost.same (HD.out.below HB.out) HB.out)
set_option maxRecDepth 100000 in
set_option maxHeartbeats 3200000 in
theorem AppendCall_many (w : World) (pd pn pb p : Nat) (s : DkS) (n : SKey) (a : Option Addr) (g off cap : Nat) (bs : List UInt8) (hD : Dk w p s) (hG : s.abs.Good) (kd : w.cell? ⟨pd, 0, none⟩ = some (.pointer (some ⟨p, 0, none⟩))) (kn : w.cell? ⟨pn, 0, none⟩ = some (.string n.1)) (kb : w.cell? ⟨pb, 0, none⟩ = some (.slice a bs.length cap)) (hb : RdS encB 1 w a g off bs) (hbl : bs.length ≤ 1073741824) (hbs : bs ≠ [] → ¬ s.Blk p g) (hbn : ¬ s.Blk p pn ∧ ¬ s.Blk p pb ∧ ¬ s.Blk p pd) (hok : nameB n.1 = true) (hfull : ¬ s.room - (totL s.abs.l : Int) < (bs.length : Int)) (hno : aget s.l n = none) (hm : s.l.length = 16) :
    Calls Try.prog 36 #[.pointer (some ⟨pd, 0, none⟩), .pointer (some ⟨pn, 0, none⟩), .pointer (some ⟨pb, 0, none⟩)] w (IntR (DkPost w p s (appendA n bs s.abs))) := by
  have hna : aget s.abs.l n = none := by unfold DkS.abs; rw [abs_get, hno]; rfl
  have e1 : appendA n bs s.abs = (s.abs, 12) := by
    unfold appendA
    rw [if_neg (by rw [hok]; simp), if_neg (show ¬ s.abs.room - (totL s.abs.l : Int) < (bs.length : Int) from hfull), hna]
    exact if_pos ((len_abs s).trans hm)
  rw [e1]
  clear hna
  have hTl : totL s.abs.l ≤ 1073741824 := by have := hG.tot; have := hG.room; omega
  obtain ⟨d0, d1, d2, d3⟩ := hD.cells
  have hlk := fun W (hW : Below w.heap.size w W) => (hD.below hW).look n true
  have hpl := World.block_lt_of_cell? _ _ d0
  have hdl := World.block_lt_of_cell? _ _ kd
  have hnl := World.block_lt_of_cell? _ _ kn
  have hbl2 := World.block_lt_of_cell? _ _ kb
  have HFF : Hid (∀ W, Below w.heap.size w W → W.cell? ⟨pd, 0, none⟩ = some (.pointer (some ⟨p, 0, none⟩)) ∧ W.cell? ⟨pn, 0, none⟩ = some (.string n.1) ∧ W.cell? ⟨pb, 0, none⟩ = some (.slice a bs.length cap) ∧ W.cell? ⟨p, 0, none⟩ = some (.map (some s.m)) ∧ W.cell? ⟨p, 1, none⟩ = some (.int .i64 s.room)) := fun W hW => ⟨(hW.cell (p := ⟨pd, 0, none⟩) hdl).trans kd, (hW.cell (p := ⟨pn, 0, none⟩) hnl).trans kn, (hW.cell (p := ⟨pb, 0, none⟩) hbl2).trans kb, (hW.cell (p := ⟨p, 0, none⟩) hpl).trans d0, (hW.cell (p := ⟨p, 1, none⟩) hpl).trans d1⟩
  have HT : Hid (∀ W, Below w.heap.size w W → Calls Try.prog 38 #[.pointer (some ⟨p, 0, none⟩)] W fun e w' => e = .returned (.int .i64 (totL s.abs.l)) ∧ Ext W w') := fun W hW => total_any W p s (hD.below hW) (by rw [sumF_abs]; exact hTl)
  have HN : Hid (∀ W, Calls Try.prog 37 #[.string n.1] W fun e w' => e = .returned (.bool (nameB n.1)) ∧ Below W.heap.size W w') := fun W => isName_any W n.1 n.2

  have hlk0 := fun q => hlk (w.drewN q) (bdrewN (Below.refl _ _) q)
  simp only [if_true] at hlk0

  obtain ⟨hr0, hr1⟩ := hG.room
  have htot := hG.tot
  have hra : s.abs.room = s.room := rfl
  rw [hra] at hr0 hr1 htot
  obtain ⟨T, hT⟩ : ∃ T, T = totL s.abs.l := ⟨_, rfl⟩
  rw [← hT] at htot hTl HT
  rw [← hT] at hfull
  rw [hok] at HN
  have HD := hid hD
  have hln := fun W (hW : Below w.heap.size w W) => (hD.below hW).files.len ⟨_, _, Try.underlying65⟩ 3
  rw [hm] at hln
  have HLN := hid hln
  have hnh : ahas s.l n = false := by rw [ahas_eq, hno]; rfl
  rw [hno, hnh] at hlk0
  simp only [Option.map_none, Option.getD_none] at hlk0
  clear hlk hD hT hm hno hnh hln
  go_enter Try.func36, Try.ntmps36
  go_wp2
  go_quiet (fail)
  go_wp2_with fail
  refine (HN.out _).mono ?_
  rintro e w2 ⟨rfl, hb2⟩
  have hC2 : (fun W => Below w.heap.size w W) w2 := (bdrewN (Below.refl w.heap.size w) nq).trans (hb2.mono (Nat.le_of_eq rfl))
  clear hb2 hlk0

  go_wp2_with fail
  refine wp_region_C (fun W => Below w.heap.size w W) (by kernel_rfl) ?_
  have hC3 : (fun W => Below w.heap.size w W) w2.drew := bdrewN hC2 1
  clear hC2
  refine takeC (i := 0) (v := ?_) rfl (by kernel_rfl) (by kernel_rfl) (by kernel_rfl) (fun _ _ _ h => h) (by assumption) (Or.inl ⟨?_, ?_⟩) (fun K hK => ?_)
  rotate_left
  · rfl
  · (intro W hW; obtain ⟨k1, k2, k3, k4, k5⟩ := HFF.out W hW; go_simp; first | done | with_reducible rfl)
  (try go_simp)
  refine hK _ _ ?_
  clear hK K
  refine takeC (i := 1) (v := ?_) rfl (by kernel_rfl) (by kernel_rfl) (by kernel_rfl) (fun _ _ _ h => h) (by assumption) (Or.inl ⟨?_, ?_⟩) (fun K hK => ?_)
  rotate_left
  · rfl
  · (intro W hW; obtain ⟨k1, k2, k3, k4, k5⟩ := HFF.out W hW; go_simp; first | done | with_reducible rfl)
  (try go_simp)
  refine hK _ _ ?_
  clear hK K
  refine takeC (i := 2) (v := ?_) rfl (by kernel_rfl) (by kernel_rfl) (by kernel_rfl) (fun _ _ _ h => h) (by assumption) (Or.inl ⟨?_, ?_⟩) (fun K hK => ?_)
  rotate_left
  · rfl
  · (intro W hW; obtain ⟨k1, k2, k3, k4, k5⟩ := HFF.out W hW; go_simp; first | done | with_reducible rfl)
  (try go_simp)
  refine hK _ _ ?_
  clear hK K
  refine takeC (i := 3) (v := ?_) rfl (by kernel_rfl) (by kernel_rfl) (by kernel_rfl) (fun _ _ _ h => h) (by assumption) (Or.inl ⟨?_, ?_⟩) (fun K hK => ?_)
  rotate_left
  · rfl
  · (intro W hW; obtain ⟨k1, k2, k3, k4, k5⟩ := HFF.out W hW; go_simp; first | done | with_reducible rfl)
  (try go_simp)
  refine hK _ _ ?_
  clear hK K
  refine takeC (i := 4) (v := ?_) rfl (by kernel_rfl) (by kernel_rfl) (by kernel_rfl) (fun _ _ _ h => h) (by assumption) (Or.inl ⟨?_, ?_⟩) (fun K hK => ?_)
  rotate_left
  · rfl
  · (intro W hW; obtain ⟨k1, k2, k3, k4, k5⟩ := HFF.out W hW; go_simp; first | done | with_reducible rfl)
  (try go_simp)
  refine hK _ _ ?_
  clear hK K
  refine takeC (i := 5) (v := ?_) rfl (by kernel_rfl) (by kernel_rfl) (by kernel_rfl) (fun _ _ _ h => h) (by assumption) (Or.inl ⟨?_, ?_⟩) (fun K hK => ?_)
  rotate_left
  · rfl
  · (intro W hW; obtain ⟨k1, k2, k3, k4, k5⟩ := HFF.out W hW; go_simp; first | done | with_reducible rfl)
  (try go_simp)
  refine hK _ _ ?_
  clear hK K
  refine takeC (i := 6) (v := ?_) rfl (by kernel_rfl) (by kernel_rfl) (by kernel_rfl) (fun _ _ _ h => h) (by assumption) (Or.inl ⟨?_, ?_⟩) (fun K hK => ?_)
  rotate_left
  · rfl
  · (intro W hW; obtain ⟨k1, k2, k3, k4, k5⟩ := HFF.out W hW; go_simp; first | done | with_reducible rfl)
  (try go_simp)
  refine hK _ _ ?_
  clear hK K
  refine callC (k := 7) (by kernel_rfl) rfl ?_ (fun K hK => ?_)
  · rfl
  go_simp
  refine (HT.out _ hC3).mono ?_
  rintro e w4 ⟨rfl, hE4⟩
  have hC4 : (fun W => Below w.heap.size w W) w4 := hC3.trans (hE4.below.mono hC3.size)
  clear hE4 hC3
  go_wp2
  refine hK _ _ hC4 ?_
  clear hK K
  have hwr : IntKind.i64.wrap (s.room - (T : Int)) = s.room - (T : Int) := IntWalk.i64_in _ (by omega)
  refine takeC (i := 8) (v := ?_) rfl (by kernel_rfl) (by kernel_rfl) (by kernel_rfl) (fun _ _ _ h => h) (by assumption) (Or.inl ⟨?_, ?_⟩) (fun K hK => ?_)
  rotate_left
  · rfl
  · (intro W hW; obtain ⟨k1, k2, k3, k4, k5⟩ := HFF.out W hW; go_simp; first | done | with_reducible rfl)
  (try go_simp)
  refine hK _ _ ?_
  clear hK K
  refine takeC (i := 9) (v := ?_) rfl (by kernel_rfl) (by kernel_rfl) (by kernel_rfl) (fun _ _ _ h => h) (by assumption) (Or.inl ⟨?_, ?_⟩) (fun K hK => ?_)
  rotate_left
  · rfl
  · (intro W hW; obtain ⟨k1, k2, k3, k4, k5⟩ := HFF.out W hW; go_simp; first | done | with_reducible rfl)
  (try go_simp)
  refine hK _ _ ?_
  clear hK K
  refine takeC (i := 10) (v := ?_) rfl (by kernel_rfl) (by kernel_rfl) (by kernel_rfl) (fun _ _ _ h => h) (by assumption) (Or.inl ⟨?_, ?_⟩) (fun K hK => ?_)
  rotate_left
  · rfl
  · (intro W hW; obtain ⟨k1, k2, k3, k4, k5⟩ := HFF.out W hW; go_simp; first | done | with_reducible rfl)
  (try go_simp)
  refine hK _ _ ?_
  clear hK K
  refine doneC (by kernel_rfl) ?_
  clear hwr
  have HB := hid hC4
  obtain ⟨k1, k2, k3, k4, k5⟩ := HFF.out _ hC4
  have hln := HLN.out _ hC4
  clear hC4
  go_wp2
  go_ret
  exact IntR.mk (DkPost.same (HD.out.below HB.out) HB.out)

theorem Dk.appended {w0 w4 w5 : World} {p : Nat} {s : DkS} (h : Dk w4 p s) (hw : Below w0.heap.size w0 w4) {x : SKey × Nat} (hx : x ∈ s.l) {v' : Value} {bs : List UInt8} (ho : OwnB w5 v' ((s.fs x.2).bs ++ bs)) (hg : w4.grownBy w5 (s.fs x.2).v.ownBlock)
    (hat : v'.ownBlock = (s.fs x.2).v.ownBlock ∨ v'.ownBlock = some w4.heap.size) : DkPost w0 p s (setA s.abs x.1 ((s.fs x.2).bs ++ bs, (s.fs x.2).sure), 0) 0 (w5.setCell ⟨x.2, 0, none⟩ v') := by
  have hxl := h.lt x.2 (Or.inr (Or.inr ⟨x, hx, Or.inl rfl⟩))
  have hner : ∀ g, (s.fs x.2).v.ownBlock = some g → g ≠ x.2 := fun g hgg => (h.nr x hx g hgg).2.2.1 x hx
  have h5 : w5.heap[x.2]? = some (.cells #[(s.fs x.2).v, .int .i64 (s.fs x.2).sure] 73 (0, 0)) := (hg.block x.2 hxl (fun e => hner _ e.symm rfl)).trans (h.ent x hx)
  have hrow : ∀ g, v'.ownBlock = some g → (s.fs x.2).v.ownBlock = some g ∨ w4.heap.size ≤ g := fun g hgg => by
    rcases hat with h1 | h1
    · exact Or.inl (h1 ▸ hgg)
    · rw [h1] at hgg; cases hgg; exact Or.inr (Nat.le_refl _)
  have hne' : ∀ g, v'.ownBlock = some g → g ≠ x.2 := fun g hgg => by
    rcases hrow g hgg with h1 | h1
    · exact hner g h1
    · omega
  have hd := h.setFile (w' := w5.setCell ⟨x.2, 0, none⟩ v') hx (f := ⟨v', (s.fs x.2).bs ++ bs, (s.fs x.2).sure⟩) (by have := heap_setCell_at (o := 0) h5 v'; simpa using this)
    (ho.same (fun g hgg => Below.heap_setCell w5 _ _ _ (hne' g hgg))) hrow (fun g hgb hgx hgr => (Below.heap_setCell w5 _ _ _ hgx).trans (hg.block g (h.lt g hgb) (fun e => hgr e.symm)))
  refine ⟨_, hd, ?_, rfl, fun g hgb => ?_, ?_⟩
  · unfold DkS.abs setA
    simp only
    rw [abs_set h.keys h.nde hx]
  · rcases hgb with rfl | rfl | ⟨y, hy, hyg⟩
    · exact Or.inl (Or.inl rfl)
    · exact Or.inl (Or.inr (Or.inl rfl))
    · rcases hyg with rfl | hyg
      · exact Or.inl (Or.inr (Or.inr ⟨y, hy, Or.inl rfl⟩))
      · by_cases hyx : y.2 = x.2
        · simp only [hyx, updF_same] at hyg
          rcases hrow g hyg with h1 | h1
          · exact Or.inl (Or.inr (Or.inr ⟨x, hx, Or.inr h1⟩))
          · exact Or.inr (Nat.le_trans hw.size h1)
        · simp only [updF_other _ _ hyx] at hyg
          exact Or.inl (Or.inr (Or.inr ⟨y, hy, Or.inr hyg⟩))
  · exact ((below_keeps hw).grown hg (fun g _ hgg => Or.inr (Or.inr ⟨x, hx, Or.inr hgg⟩))).setCell (fun _ => Or.inr (Or.inr ⟨x, hx, Or.inl rfl⟩)) _
theorem Dk.added {w0 w4 w7 : World} {p : Nat} {s : DkS} (h : Dk w4 p s) (hw : Below w0.heap.size w0 w4) {n : SKey} (hno : aget s.l n = none) {v' : Value} {bs : List UInt8} (hm : MapIs vS vP w7 s.m (aput s.l n w4.heap.size))
    (he : w7.heap[w4.heap.size]? = some (.cells #[v', .int .i64 0] 73 (0, 0))) (ho : OwnB w7 v' bs) (hrow : ∀ g, v'.ownBlock = some g → w4.heap.size + 1 ≤ g) (k : Keeps (· = s.m) w4 w7) : DkPost w0 p s (setA s.abs n (bs, 0), 0) 0 w7 := by
  have hn : ahas s.l n = false := by rw [ahas_eq, hno]; rfl
  have hput : aput s.l n w4.heap.size = s.l ++ [(n, w4.heap.size)] := by unfold aput; rw [if_neg (by rw [hn]; simp)]
  have hne : ∀ y ∈ s.l, y.2 ≠ w4.heap.size := fun y hy e => by have := h.lt y.2 (Or.inr (Or.inr ⟨y, hy, Or.inl rfl⟩)); omega
  rw [hput] at hm
  have hd := h.addFile (f := ⟨v', bs, 0⟩) hm (Nat.le_refl _) (by simpa using he) ho (fun g hg => ⟨by have := hrow g hg; omega, by have := hrow g hg; omega⟩) (fun g hg hgm => k.block g (h.lt g hg) hgm)
  refine ⟨_, hd, ?_, rfl, fun g hgb => ?_, ?_⟩
  · unfold DkS.abs setA
    simp only
    rw [abs_add hn hne]
  · rcases hgb with rfl | rfl | ⟨y, hy, hyg⟩
    · exact Or.inl (Or.inl rfl)
    · exact Or.inl (Or.inr (Or.inl rfl))
    · simp only at hy hyg
      rcases List.mem_append.1 hy with hy | hy
      · rw [updF_other _ _ (hne y hy)] at hyg
        exact Or.inl (Or.inr (Or.inr ⟨y, hy, hyg⟩))
      · rw [List.mem_singleton] at hy
        subst hy
        rw [updF_same] at hyg
        have := hw.size
        rcases hyg with rfl | hyg
        · exact Or.inr this
        · have := hrow g hyg
          exact Or.inr (by omega)
  · exact (below_keeps hw).trans k (fun g _ e => Or.inr (Or.inl e))
set_option maxRecDepth 100000 in
set_option maxHeartbeats 3200000 in
theorem AppendCall_old (w : World) (pd pn pb p : Nat) (s : DkS) (n : SKey) (a : Option Addr) (g off cap : Nat) (bs : List UInt8) (hD : Dk w p s) (hG : s.abs.Good) (kd : w.cell? ⟨pd, 0, none⟩ = some (.pointer (some ⟨p, 0, none⟩))) (kn : w.cell? ⟨pn, 0, none⟩ = some (.string n.1)) (kb : w.cell? ⟨pb, 0, none⟩ = some (.slice a bs.length cap)) (hb : RdS encB 1 w a g off bs) (hbl : bs.length ≤ 1073741824) (hbs : bs ≠ [] → ¬ s.Blk p g) (hbn : ¬ s.Blk p pn ∧ ¬ s.Blk p pb ∧ ¬ s.Blk p pd) (hok : nameB n.1 = true) (hfull : ¬ s.room - (totL s.abs.l : Int) < (bs.length : Int)) (e : Nat) (hno : aget s.l n = some e) :
    Calls Try.prog 36 #[.pointer (some ⟨pd, 0, none⟩), .pointer (some ⟨pn, 0, none⟩), .pointer (some ⟨pb, 0, none⟩)] w (IntR (DkPost w p s (appendA n bs s.abs))) := by
  have hna : aget s.abs.l n = some ((s.fs e).bs, (s.fs e).sure) := by unfold DkS.abs; rw [abs_get, hno]; rfl
  have e1 : appendA n bs s.abs = (setA s.abs n ((s.fs e).bs ++ bs, (s.fs e).sure), 0) := by
    unfold appendA
    rw [if_neg (by rw [hok]; simp), if_neg (show ¬ s.abs.room - (totL s.abs.l : Int) < (bs.length : Int) from hfull), hna]
  have hlen0 := (hG.len_get hna).2
  rw [e1]
  clear hna e1
  have hTl : totL s.abs.l ≤ 1073741824 := by have := hG.tot; have := hG.room; omega
  obtain ⟨d0, d1, d2, d3⟩ := hD.cells
  have hlk := fun W (hW : Below w.heap.size w W) => (hD.below hW).look n true
  have hpl := World.block_lt_of_cell? _ _ d0
  have hdl := World.block_lt_of_cell? _ _ kd
  have hnl := World.block_lt_of_cell? _ _ kn
  have hbl2 := World.block_lt_of_cell? _ _ kb
  have HFF : Hid (∀ W, Below w.heap.size w W → W.cell? ⟨pd, 0, none⟩ = some (.pointer (some ⟨p, 0, none⟩)) ∧ W.cell? ⟨pn, 0, none⟩ = some (.string n.1) ∧ W.cell? ⟨pb, 0, none⟩ = some (.slice a bs.length cap) ∧ W.cell? ⟨p, 0, none⟩ = some (.map (some s.m)) ∧ W.cell? ⟨p, 1, none⟩ = some (.int .i64 s.room)) := fun W hW => ⟨(hW.cell (p := ⟨pd, 0, none⟩) hdl).trans kd, (hW.cell (p := ⟨pn, 0, none⟩) hnl).trans kn, (hW.cell (p := ⟨pb, 0, none⟩) hbl2).trans kb, (hW.cell (p := ⟨p, 0, none⟩) hpl).trans d0, (hW.cell (p := ⟨p, 1, none⟩) hpl).trans d1⟩
  have HT : Hid (∀ W, Below w.heap.size w W → Calls Try.prog 38 #[.pointer (some ⟨p, 0, none⟩)] W fun e w' => e = .returned (.int .i64 (totL s.abs.l)) ∧ Ext W w') := fun W hW => total_any W p s (hD.below hW) (by rw [sumF_abs]; exact hTl)
  have HN : Hid (∀ W, Calls Try.prog 37 #[.string n.1] W fun e w' => e = .returned (.bool (nameB n.1)) ∧ Below W.heap.size W w') := fun W => isName_any W n.1 n.2

  have hlk0 := fun q => hlk (w.drewN q) (bdrewN (Below.refl _ _) q)
  simp only [if_true] at hlk0

  obtain ⟨hr0, hr1⟩ := hG.room
  have htot := hG.tot
  have hra : s.abs.room = s.room := rfl
  rw [hra] at hr0 hr1 htot
  obtain ⟨T, hT⟩ : ∃ T, T = totL s.abs.l := ⟨_, rfl⟩
  rw [← hT] at htot hTl HT
  rw [hra] at hlen0
  simp only at hlen0
  rw [← hT] at hfull
  rw [hok] at HN
  have HD := hid hD
  have hx : (n, e) ∈ s.l := mem_of_get hno
  have hnh : ahas s.l n = true := by rw [ahas_eq, hno]; rfl
  rw [hno, hnh] at hlk0
  simp only [Option.map_some, Option.getD_some, vP] at hlk0
  have HB0 := hid hb
  have HX := hid hx
  clear hlk hD hT hno hnh hb hx
  go_enter Try.func36, Try.ntmps36
  go_wp2
  go_quiet (fail)
  go_wp2_with fail
  refine (HN.out _).mono ?_
  rintro e w2 ⟨rfl, hb2⟩
  have hC2 : (fun W => Below w.heap.size w W) w2 := (bdrewN (Below.refl w.heap.size w) nq).trans (hb2.mono (Nat.le_of_eq rfl))
  clear hb2 hlk0

  go_wp2_with fail
  refine wp_region_C (fun W => Below w.heap.size w W) (by kernel_rfl) ?_
  have hC3 : (fun W => Below w.heap.size w W) w2.drew := bdrewN hC2 1
  clear hC2
  refine takeC (i := 0) (v := ?_) rfl (by kernel_rfl) (by kernel_rfl) (by kernel_rfl) (fun _ _ _ h => h) (by assumption) (Or.inl ⟨?_, ?_⟩) (fun K hK => ?_)
  rotate_left
  · rfl
  · (intro W hW; obtain ⟨k1, k2, k3, k4, k5⟩ := HFF.out W hW; go_simp; first | done | with_reducible rfl)
  (try go_simp)
  refine hK _ _ ?_
  clear hK K
  refine takeC (i := 1) (v := ?_) rfl (by kernel_rfl) (by kernel_rfl) (by kernel_rfl) (fun _ _ _ h => h) (by assumption) (Or.inl ⟨?_, ?_⟩) (fun K hK => ?_)
  rotate_left
  · rfl
  · (intro W hW; obtain ⟨k1, k2, k3, k4, k5⟩ := HFF.out W hW; go_simp; first | done | with_reducible rfl)
  (try go_simp)
  refine hK _ _ ?_
  clear hK K
  refine takeC (i := 2) (v := ?_) rfl (by kernel_rfl) (by kernel_rfl) (by kernel_rfl) (fun _ _ _ h => h) (by assumption) (Or.inl ⟨?_, ?_⟩) (fun K hK => ?_)
  rotate_left
  · rfl
  · (intro W hW; obtain ⟨k1, k2, k3, k4, k5⟩ := HFF.out W hW; go_simp; first | done | with_reducible rfl)
  (try go_simp)
  refine hK _ _ ?_
  clear hK K
  refine takeC (i := 3) (v := ?_) rfl (by kernel_rfl) (by kernel_rfl) (by kernel_rfl) (fun _ _ _ h => h) (by assumption) (Or.inl ⟨?_, ?_⟩) (fun K hK => ?_)
  rotate_left
  · rfl
  · (intro W hW; obtain ⟨k1, k2, k3, k4, k5⟩ := HFF.out W hW; go_simp; first | done | with_reducible rfl)
  (try go_simp)
  refine hK _ _ ?_
  clear hK K
  refine takeC (i := 4) (v := ?_) rfl (by kernel_rfl) (by kernel_rfl) (by kernel_rfl) (fun _ _ _ h => h) (by assumption) (Or.inl ⟨?_, ?_⟩) (fun K hK => ?_)
  rotate_left
  · rfl
  · (intro W hW; obtain ⟨k1, k2, k3, k4, k5⟩ := HFF.out W hW; go_simp; first | done | with_reducible rfl)
  (try go_simp)
  refine hK _ _ ?_
  clear hK K
  refine takeC (i := 5) (v := ?_) rfl (by kernel_rfl) (by kernel_rfl) (by kernel_rfl) (fun _ _ _ h => h) (by assumption) (Or.inl ⟨?_, ?_⟩) (fun K hK => ?_)
  rotate_left
  · rfl
  · (intro W hW; obtain ⟨k1, k2, k3, k4, k5⟩ := HFF.out W hW; go_simp; first | done | with_reducible rfl)
  (try go_simp)
  refine hK _ _ ?_
  clear hK K
  refine takeC (i := 6) (v := ?_) rfl (by kernel_rfl) (by kernel_rfl) (by kernel_rfl) (fun _ _ _ h => h) (by assumption) (Or.inl ⟨?_, ?_⟩) (fun K hK => ?_)
  rotate_left
  · rfl
  · (intro W hW; obtain ⟨k1, k2, k3, k4, k5⟩ := HFF.out W hW; go_simp; first | done | with_reducible rfl)
  (try go_simp)
  refine hK _ _ ?_
  clear hK K
  refine callC (k := 7) (by kernel_rfl) rfl ?_ (fun K hK => ?_)
  · rfl
  go_simp
  refine (HT.out _ hC3).mono ?_
  rintro e w4 ⟨rfl, hE4⟩
  have hC4 : (fun W => Below w.heap.size w W) w4 := hC3.trans (hE4.below.mono hC3.size)
  clear hE4 hC3
  go_wp2
  refine hK _ _ hC4 ?_
  clear hK K
  have hwr : IntKind.i64.wrap (s.room - (T : Int)) = s.room - (T : Int) := IntWalk.i64_in _ (by omega)
  refine takeC (i := 8) (v := ?_) rfl (by kernel_rfl) (by kernel_rfl) (by kernel_rfl) (fun _ _ _ h => h) (by assumption) (Or.inl ⟨?_, ?_⟩) (fun K hK => ?_)
  rotate_left
  · rfl
  · (intro W hW; obtain ⟨k1, k2, k3, k4, k5⟩ := HFF.out W hW; go_simp; first | done | with_reducible rfl)
  (try go_simp)
  refine hK _ _ ?_
  clear hK K
  refine takeC (i := 9) (v := ?_) rfl (by kernel_rfl) (by kernel_rfl) (by kernel_rfl) (fun _ _ _ h => h) (by assumption) (Or.inl ⟨?_, ?_⟩) (fun K hK => ?_)
  rotate_left
  · rfl
  · (intro W hW; obtain ⟨k1, k2, k3, k4, k5⟩ := HFF.out W hW; go_simp; first | done | with_reducible rfl)
  (try go_simp)
  refine hK _ _ ?_
  clear hK K
  refine takeC (i := 10) (v := ?_) rfl (by kernel_rfl) (by kernel_rfl) (by kernel_rfl) (fun _ _ _ h => h) (by assumption) (Or.inl ⟨?_, ?_⟩) (fun K hK => ?_)
  rotate_left
  · rfl
  · (intro W hW; obtain ⟨k1, k2, k3, k4, k5⟩ := HFF.out W hW; go_simp; first | done | with_reducible rfl)
  (try go_simp)
  refine hK _ _ ?_
  clear hK K
  refine doneC (by kernel_rfl) ?_
  clear hwr
  obtain ⟨k1, k2, k3, k4, k5⟩ := HFF.out _ hC4
  have hD4 := HD.out.below hC4
  obtain ⟨x0, x1⟩ := hD4.ecells HX.out
  have xf := hD4.efree HX.out 0
  have hsrc := Src.ofRd (cap := cap) ((HB0.out.below hC4).below (((Ext.refl w4).drew).below))
  have hown := (hD4.own _ HX.out).ext ((Ext.refl w4).drew)
  have HB := hid hC4
  have HD4 := hid hD4
  clear hC4 hD4
  simp only at x0 x1 xf hown
  have hC0 : (fun W : World => W.cell? ⟨pb, 0, none⟩ = some (.slice a bs.length cap)) w4.drew := k3
  go_wp2_with fail
  refine wp_region_C (fun W : World => W.cell? ⟨pb, 0, none⟩ = some (.slice a bs.length cap)) (by kernel_rfl) ?_
  refine takeC (i := 0) (v := ?_) rfl (by kernel_rfl) (by kernel_rfl) (by kernel_rfl) (fun _ _ _ h => h) (by assumption) (Or.inl ⟨?_, ?_⟩) (fun K hK => ?_)
  rotate_left
  · rfl
  · (intro W hW; skip; go_simp; first | done | with_reducible rfl)
  (try go_simp)
  refine hK _ _ ?_
  clear hK K
  refine takeC (i := 1) (v := ?_) rfl (by kernel_rfl) (by kernel_rfl) (by kernel_rfl) (fun _ _ _ h => h) (by assumption) (Or.inl ⟨?_, ?_⟩) (fun K hK => ?_)
  rotate_left
  · rfl
  · (intro W hW; skip; go_simp; first | done | with_reducible rfl)
  (try go_simp)
  refine hK _ _ ?_
  clear hK K
  refine takeC (i := 2) (v := ?_) rfl (by kernel_rfl) (by kernel_rfl) (by kernel_rfl) (fun _ _ _ h => h) (by assumption) (Or.inl ⟨?_, ?_⟩) (fun K hK => ?_)
  rotate_left
  · rfl
  · (intro W hW; skip; go_simp; first | done | with_reducible rfl)
  (try go_simp)
  refine hK _ _ ?_
  clear hK K
  refine takeC (i := 3) (v := ?_) rfl (by kernel_rfl) (by kernel_rfl) (by kernel_rfl) (fun _ _ _ h => h) (by assumption) (Or.inl ⟨?_, ?_⟩) (fun K hK => ?_)
  rotate_left
  · rfl
  · (intro W hW; skip; go_simp; first | done | with_reducible rfl)
  (try go_simp)
  refine hK _ _ ?_
  clear hK K
  refine takeC (i := 5) (v := ?_) rfl (by kernel_rfl) (by kernel_rfl) (by kernel_rfl) (fun _ _ _ h => h) (by assumption) (Or.inl ⟨?_, ?_⟩) (fun K hK => ?_)
  rotate_left
  · rfl
  · (intro W hW; skip; go_simp; first | done | with_reducible rfl)
  (try go_simp)
  refine hK _ _ ?_
  clear hK K
  refine callC (k := 4) (by kernel_rfl) rfl ?_ (fun K hK => ?_)
  · rfl
  go_simp
  refine hK _ _ (by assumption) ?_
  clear hK K
  refine callC (k := 6) (by kernel_rfl) rfl ?_ (fun K hK => ?_)
  · rfl
  refine wp_append_B _ _ rfl (s.fs e).v (s.fs e).bs bs rfl hown _ rfl hsrc (by omega) ?_
  intro v' w5 hown5 hg5 hat5
  have hxl := HD4.out.lt e (Or.inr (Or.inr ⟨(n, e), HX.out, Or.inl rfl⟩))
  have hner := HD4.out.nr (n, e) HX.out
  have h5 : w5.heap[e]? = some (.cells #[(s.fs e).v, .int .i64 (s.fs e).sure] 73 (0, 0)) := (hg5.block e (by simpa using hxl) (fun e0 => (hner e e0.symm).2.2.1 (n, e) HX.out rfl)).trans (HD4.out.ent (n, e) HX.out)
  have y0 : w5.cell? ⟨e, 0, none⟩ = some (s.fs e).v := by simp [World.cell?, h5]
  have yf : w5.frozen? ⟨e, 0, none⟩ = false := by simp [World.frozen?, h5]
  have hC5 : (fun W : World => W.cell? ⟨pb, 0, none⟩ = some (.slice a bs.length cap)) w5 := hg5.cell (by simpa using k3) (fun e0 => hbn.2.1 (Or.inr (Or.inr ⟨(n, e), HX.out, Or.inr e0.symm⟩)))
  have hC6 : (fun W : World => W.cell? ⟨pb, 0, none⟩ = some (.slice a bs.length cap)) (w5.setCell ⟨e, 0, none⟩ v') := by
    show (w5.setCell ⟨e, 0, none⟩ v').cell? ⟨pb, 0, none⟩ = _
    rw [World.cell?_of_block (w := w5) (Below.heap_setCell _ _ _ _ (fun e0 => hbn.2.1 (Or.inr (Or.inr ⟨(n, e), HX.out, Or.inl e0⟩))))]
    exact hC5
  have HP := hid ((HD4.out.ext ((Ext.refl w4).drew)).appended (w0 := w) (bdrewN HB.out 1) HX.out hown5 hg5 hat5)
  obtain ⟨a5, g5, o5, c5, hv5, _, _, _⟩ := hown5.rd
  rw [List.length_append] at hv5
  subst hv5
  clear hown hsrc hown5 hg5 hat5 h5 hner x0 x1 xf k1 k2 k3 k4 k5
  refine hK _ _ hC5 ?_
  clear hK K
  refine takeC (i := 7) (v := ?_) rfl (by kernel_rfl) (by kernel_rfl) (by kernel_rfl) (fun _ _ _ h => h) (by assumption) (Or.inl ⟨?_, ?_⟩) (fun K hK => ?_)
  rotate_left
  · rfl
  · (intro W hW; skip; go_simp; first | done | with_reducible rfl)
  (try go_simp)
  refine hK _ _ ?_
  clear hK K
  refine takeC (i := 8) (v := ?_) rfl (by kernel_rfl) (by kernel_rfl) (by kernel_rfl) (fun _ _ _ h => h) (by assumption) (Or.inl ⟨?_, ?_⟩) (fun K hK => ?_)
  rotate_left
  · rfl
  · (intro W hW; skip; go_simp; first | done | with_reducible rfl)
  (try go_simp)
  refine hK _ _ ?_
  clear hK K
  refine callC (k := 9) (by kernel_rfl) rfl ?_ (fun K hK => ?_)
  · rfl
  go_simp
  refine hK _ _ (by assumption) ?_
  clear hK K
  refine doneC (by kernel_rfl) ?_
  clear hC6 y0 yf
  go_wp2
  go_ret
  exact IntR.mk HP.out
set_option maxRecDepth 100000 in
set_option maxHeartbeats 3200000 in
theorem AppendCall_new (w : World) (pd pn pb p : Nat) (s : DkS) (n : SKey) (a : Option Addr) (g off cap : Nat) (bs : List UInt8) (hD : Dk w p s) (hG : s.abs.Good) (kd : w.cell? ⟨pd, 0, none⟩ = some (.pointer (some ⟨p, 0, none⟩))) (kn : w.cell? ⟨pn, 0, none⟩ = some (.string n.1)) (kb : w.cell? ⟨pb, 0, none⟩ = some (.slice a bs.length cap)) (hb : RdS encB 1 w a g off bs) (hbl : bs.length ≤ 1073741824) (hbs : bs ≠ [] → ¬ s.Blk p g) (hbn : ¬ s.Blk p pn ∧ ¬ s.Blk p pb ∧ ¬ s.Blk p pd) (hok : nameB n.1 = true) (hfull : ¬ s.room - (totL s.abs.l : Int) < (bs.length : Int)) (hno : aget s.l n = none) (hm : s.l.length ≠ 16) :
    Calls Try.prog 36 #[.pointer (some ⟨pd, 0, none⟩), .pointer (some ⟨pn, 0, none⟩), .pointer (some ⟨pb, 0, none⟩)] w (IntR (DkPost w p s (appendA n bs s.abs))) := by
  have hna : aget s.abs.l n = none := by unfold DkS.abs; rw [abs_get, hno]; rfl
  have e1 : appendA n bs s.abs = (setA s.abs n (bs, 0), 0) := by
    unfold appendA
    rw [if_neg (by rw [hok]; simp), if_neg (show ¬ s.abs.room - (totL s.abs.l : Int) < (bs.length : Int) from hfull), hna]
    exact if_neg (fun e0 => hm ((len_abs s).symm.trans e0))
  rw [e1]
  clear hna e1
  have hTl : totL s.abs.l ≤ 1073741824 := by have := hG.tot; have := hG.room; omega
  obtain ⟨d0, d1, d2, d3⟩ := hD.cells
  have hlk := fun W (hW : Below w.heap.size w W) => (hD.below hW).look n true
  have hpl := World.block_lt_of_cell? _ _ d0
  have hdl := World.block_lt_of_cell? _ _ kd
  have hnl := World.block_lt_of_cell? _ _ kn
  have hbl2 := World.block_lt_of_cell? _ _ kb
  have HFF : Hid (∀ W, Below w.heap.size w W → W.cell? ⟨pd, 0, none⟩ = some (.pointer (some ⟨p, 0, none⟩)) ∧ W.cell? ⟨pn, 0, none⟩ = some (.string n.1) ∧ W.cell? ⟨pb, 0, none⟩ = some (.slice a bs.length cap) ∧ W.cell? ⟨p, 0, none⟩ = some (.map (some s.m)) ∧ W.cell? ⟨p, 1, none⟩ = some (.int .i64 s.room)) := fun W hW => ⟨(hW.cell (p := ⟨pd, 0, none⟩) hdl).trans kd, (hW.cell (p := ⟨pn, 0, none⟩) hnl).trans kn, (hW.cell (p := ⟨pb, 0, none⟩) hbl2).trans kb, (hW.cell (p := ⟨p, 0, none⟩) hpl).trans d0, (hW.cell (p := ⟨p, 1, none⟩) hpl).trans d1⟩
  have HT : Hid (∀ W, Below w.heap.size w W → Calls Try.prog 38 #[.pointer (some ⟨p, 0, none⟩)] W fun e w' => e = .returned (.int .i64 (totL s.abs.l)) ∧ Ext W w') := fun W hW => total_any W p s (hD.below hW) (by rw [sumF_abs]; exact hTl)
  have HN : Hid (∀ W, Calls Try.prog 37 #[.string n.1] W fun e w' => e = .returned (.bool (nameB n.1)) ∧ Below W.heap.size W w') := fun W => isName_any W n.1 n.2

  have hlk0 := fun q => hlk (w.drewN q) (bdrewN (Below.refl _ _) q)
  simp only [if_true] at hlk0

  obtain ⟨hr0, hr1⟩ := hG.room
  have htot := hG.tot
  have hra : s.abs.room = s.room := rfl
  rw [hra] at hr0 hr1 htot
  obtain ⟨T, hT⟩ : ∃ T, T = totL s.abs.l := ⟨_, rfl⟩
  rw [← hT] at htot hTl HT
  rw [← hT] at hfull
  rw [hok] at HN
  have HD := hid hD
  have HB0 := hid hb
  have HNO := hid hno
  have hln := fun W (hW : Below w.heap.size w W) => (hD.below hW).files.len ⟨_, _, Try.underlying65⟩ 3
  have hm' : ((s.l.length : Int) == 16) = false := by simp; omega
  have HLN := hid hln
  have hnh : ahas s.l n = false := by rw [ahas_eq, hno]; rfl
  rw [hno, hnh] at hlk0
  simp only [Option.map_none, Option.getD_none] at hlk0
  clear hlk hD hT hm hno hnh hln hb
  go_enter Try.func36, Try.ntmps36
  go_wp2
  go_quiet (fail)
  go_wp2_with fail
  refine (HN.out _).mono ?_
  rintro e w2 ⟨rfl, hb2⟩
  have hC2 : (fun W => Below w.heap.size w W) w2 := (bdrewN (Below.refl w.heap.size w) nq).trans (hb2.mono (Nat.le_of_eq rfl))
  clear hb2 hlk0

  go_wp2_with fail
  refine wp_region_C (fun W => Below w.heap.size w W) (by kernel_rfl) ?_
  have hC3 : (fun W => Below w.heap.size w W) w2.drew := bdrewN hC2 1
  clear hC2
  refine takeC (i := 0) (v := ?_) rfl (by kernel_rfl) (by kernel_rfl) (by kernel_rfl) (fun _ _ _ h => h) (by assumption) (Or.inl ⟨?_, ?_⟩) (fun K hK => ?_)
  rotate_left
  · rfl
  · (intro W hW; obtain ⟨k1, k2, k3, k4, k5⟩ := HFF.out W hW; go_simp; first | done | with_reducible rfl)
  (try go_simp)
  refine hK _ _ ?_
  clear hK K
  refine takeC (i := 1) (v := ?_) rfl (by kernel_rfl) (by kernel_rfl) (by kernel_rfl) (fun _ _ _ h => h) (by assumption) (Or.inl ⟨?_, ?_⟩) (fun K hK => ?_)
  rotate_left
  · rfl
  · (intro W hW; obtain ⟨k1, k2, k3, k4, k5⟩ := HFF.out W hW; go_simp; first | done | with_reducible rfl)
  (try go_simp)
  refine hK _ _ ?_
  clear hK K
  refine takeC (i := 2) (v := ?_) rfl (by kernel_rfl) (by kernel_rfl) (by kernel_rfl) (fun _ _ _ h => h) (by assumption) (Or.inl ⟨?_, ?_⟩) (fun K hK => ?_)
  rotate_left
  · rfl
  · (intro W hW; obtain ⟨k1, k2, k3, k4, k5⟩ := HFF.out W hW; go_simp; first | done | with_reducible rfl)
  (try go_simp)
  refine hK _ _ ?_
  clear hK K
  refine takeC (i := 3) (v := ?_) rfl (by kernel_rfl) (by kernel_rfl) (by kernel_rfl) (fun _ _ _ h => h) (by assumption) (Or.inl ⟨?_, ?_⟩) (fun K hK => ?_)
  rotate_left
  · rfl
  · (intro W hW; obtain ⟨k1, k2, k3, k4, k5⟩ := HFF.out W hW; go_simp; first | done | with_reducible rfl)
  (try go_simp)
  refine hK _ _ ?_
  clear hK K
  refine takeC (i := 4) (v := ?_) rfl (by kernel_rfl) (by kernel_rfl) (by kernel_rfl) (fun _ _ _ h => h) (by assumption) (Or.inl ⟨?_, ?_⟩) (fun K hK => ?_)
  rotate_left
  · rfl
  · (intro W hW; obtain ⟨k1, k2, k3, k4, k5⟩ := HFF.out W hW; go_simp; first | done | with_reducible rfl)
  (try go_simp)
  refine hK _ _ ?_
  clear hK K
  refine takeC (i := 5) (v := ?_) rfl (by kernel_rfl) (by kernel_rfl) (by kernel_rfl) (fun _ _ _ h => h) (by assumption) (Or.inl ⟨?_, ?_⟩) (fun K hK => ?_)
  rotate_left
  · rfl
  · (intro W hW; obtain ⟨k1, k2, k3, k4, k5⟩ := HFF.out W hW; go_simp; first | done | with_reducible rfl)
  (try go_simp)
  refine hK _ _ ?_
  clear hK K
  refine takeC (i := 6) (v := ?_) rfl (by kernel_rfl) (by kernel_rfl) (by kernel_rfl) (fun _ _ _ h => h) (by assumption) (Or.inl ⟨?_, ?_⟩) (fun K hK => ?_)
  rotate_left
  · rfl
  · (intro W hW; obtain ⟨k1, k2, k3, k4, k5⟩ := HFF.out W hW; go_simp; first | done | with_reducible rfl)
  (try go_simp)
  refine hK _ _ ?_
  clear hK K
  refine callC (k := 7) (by kernel_rfl) rfl ?_ (fun K hK => ?_)
  · rfl
  go_simp
  refine (HT.out _ hC3).mono ?_
  rintro e w4 ⟨rfl, hE4⟩
  have hC4 : (fun W => Below w.heap.size w W) w4 := hC3.trans (hE4.below.mono hC3.size)
  clear hE4 hC3
  go_wp2
  refine hK _ _ hC4 ?_
  clear hK K
  have hwr : IntKind.i64.wrap (s.room - (T : Int)) = s.room - (T : Int) := IntWalk.i64_in _ (by omega)
  refine takeC (i := 8) (v := ?_) rfl (by kernel_rfl) (by kernel_rfl) (by kernel_rfl) (fun _ _ _ h => h) (by assumption) (Or.inl ⟨?_, ?_⟩) (fun K hK => ?_)
  rotate_left
  · rfl
  · (intro W hW; obtain ⟨k1, k2, k3, k4, k5⟩ := HFF.out W hW; go_simp; first | done | with_reducible rfl)
  (try go_simp)
  refine hK _ _ ?_
  clear hK K
  refine takeC (i := 9) (v := ?_) rfl (by kernel_rfl) (by kernel_rfl) (by kernel_rfl) (fun _ _ _ h => h) (by assumption) (Or.inl ⟨?_, ?_⟩) (fun K hK => ?_)
  rotate_left
  · rfl
  · (intro W hW; obtain ⟨k1, k2, k3, k4, k5⟩ := HFF.out W hW; go_simp; first | done | with_reducible rfl)
  (try go_simp)
  refine hK _ _ ?_
  clear hK K
  refine takeC (i := 10) (v := ?_) rfl (by kernel_rfl) (by kernel_rfl) (by kernel_rfl) (fun _ _ _ h => h) (by assumption) (Or.inl ⟨?_, ?_⟩) (fun K hK => ?_)
  rotate_left
  · rfl
  · (intro W hW; obtain ⟨k1, k2, k3, k4, k5⟩ := HFF.out W hW; go_simp; first | done | with_reducible rfl)
  (try go_simp)
  refine hK _ _ ?_
  clear hK K
  refine doneC (by kernel_rfl) ?_
  clear hwr
  obtain ⟨k1, k2, k3, k4, k5⟩ := HFF.out _ hC4
  have hln := HLN.out _ hC4
  have hD4 := HD.out.below hC4
  have hm4 : MapIs vS vP (w4.alloc (.cells #[.slice none 0 0, .int .i64 0] 73 )).drew s.m s.l := hD4.files.same ((((Ext.refl w4).alloc _).drew).block _ hD4.files.lt)
  obtain ⟨es, ec, hu, hr⟩ := hm4.update keyS Try.underlying65 n w4.heap.size
  simp only [vS, vP] at hu
  have hml := hD4.files.lt
  obtain ⟨j1, j2, j3, j4, j5⟩ := HFF.out (w4.alloc (.cells #[.slice none 0 0, .int .i64 0] 73 )) (hC4.trans (((Ext.refl w4).alloc _).below.mono hC4.size))
  have HB := hid hC4
  have HD4 := hid hD4
  have HR := hid hr
  have hbl4 : pb < w4.heap.size := World.block_lt_of_cell? _ _ k3
  clear hC4 hD4 hm4 hr
  go_wp2
  go_region
  have hk6 : Keeps (· = s.m) w4 (setBlock (w4.alloc (.cells #[.slice none 0 0, .int .i64 0] 73 )).drew s.m (.map es ec)) := (((Keeps.refl (· = s.m) w4).alloc _).drew).setBlock (fun _ => rfl) _
  have h6 : (setBlock (w4.alloc (.cells #[.slice none 0 0, .int .i64 0] 73 )).drew s.m (.map es ec)).heap[w4.heap.size]? = some (.cells #[.slice none 0 0, .int .i64 0] 73 (0, 0)) := by
    rw [setBlock_other _ _ _ (by omega)]
    exact heap_alloc_new w4 _
  obtain ⟨w6, hw6⟩ : ∃ w6, w6 = setBlock (w4.alloc (.cells #[.slice none 0 0, .int .i64 0] 73 )).drew s.m (.map es ec) := ⟨_, rfl⟩
  have HR6 := HR.out
  rw [← hw6] at hk6 h6 HR6 ⊢
  replace k3 := hk6.cell (fun e0 => hbn.2.1 (Or.inr (Or.inl e0))) k3
  have x0 : w6.cell? ⟨w4.heap.size, 0, none⟩ = some (.slice none 0 0) := by simp [World.cell?, h6]
  have hsrc := Src.ofRd (cap := cap) (((HB0.out.below HB.out).keeps hk6 (fun hne e0 => hbs hne (Or.inr (Or.inl e0)))).below ((Ext.refl w6).drew).below)
  have hown := OwnB.nil w6.drew
  have HR := hid HR6
  have HK6 := hid hk6
  have HW6 := hid hw6
  have hs6 : w4.heap.size < w6.heap.size := World.block_lt_of_cell? _ _ x0
  clear HR6 hk6 hw6 hu k1 k2 k4 k5 hln j1 j2 j3 j4 j5
  have hC0 : (fun W : World => W.cell? ⟨pb, 0, none⟩ = some (.slice a bs.length cap)) w6.drew := k3
  go_wp2_with fail
  refine wp_region_C (fun W : World => W.cell? ⟨pb, 0, none⟩ = some (.slice a bs.length cap)) (by kernel_rfl) ?_
  refine takeC (i := 0) (v := ?_) rfl (by kernel_rfl) (by kernel_rfl) (by kernel_rfl) (fun _ _ _ h => h) (by assumption) (Or.inl ⟨?_, ?_⟩) (fun K hK => ?_)
  rotate_left
  · rfl
  · (intro W hW; skip; go_simp; first | done | with_reducible rfl)
  (try go_simp)
  refine hK _ _ ?_
  clear hK K
  refine takeC (i := 1) (v := ?_) rfl (by kernel_rfl) (by kernel_rfl) (by kernel_rfl) (fun _ _ _ h => h) (by assumption) (Or.inl ⟨?_, ?_⟩) (fun K hK => ?_)
  rotate_left
  · rfl
  · (intro W hW; skip; go_simp; first | done | with_reducible rfl)
  (try go_simp)
  refine hK _ _ ?_
  clear hK K
  refine takeC (i := 2) (v := ?_) rfl (by kernel_rfl) (by kernel_rfl) (by kernel_rfl) (fun _ _ _ h => h) (by assumption) (Or.inl ⟨?_, ?_⟩) (fun K hK => ?_)
  rotate_left
  · rfl
  · (intro W hW; skip; go_simp; first | done | with_reducible rfl)
  (try go_simp)
  refine hK _ _ ?_
  clear hK K
  refine takeC (i := 3) (v := ?_) rfl (by kernel_rfl) (by kernel_rfl) (by kernel_rfl) (fun _ _ _ h => h) (by assumption) (Or.inl ⟨?_, ?_⟩) (fun K hK => ?_)
  rotate_left
  · rfl
  · (intro W hW; skip; go_simp; first | done | with_reducible rfl)
  (try go_simp)
  refine hK _ _ ?_
  clear hK K
  refine takeC (i := 5) (v := ?_) rfl (by kernel_rfl) (by kernel_rfl) (by kernel_rfl) (fun _ _ _ h => h) (by assumption) (Or.inl ⟨?_, ?_⟩) (fun K hK => ?_)
  rotate_left
  · rfl
  · (intro W hW; skip; go_simp; first | done | with_reducible rfl)
  (try go_simp)
  refine hK _ _ ?_
  clear hK K
  refine callC (k := 4) (by kernel_rfl) rfl ?_ (fun K hK => ?_)
  · rfl
  go_simp
  refine hK _ _ (by assumption) ?_
  clear hK K
  refine callC (k := 6) (by kernel_rfl) rfl ?_ (fun K hK => ?_)
  · rfl
  refine wp_append_B _ _ rfl (.slice none 0 0) [] bs rfl hown _ rfl hsrc (by simp; omega) ?_
  intro v' w5 hown5 hg5 hat5
  have h7 : w5.heap[w4.heap.size]? = some (.cells #[.slice none 0 0, .int .i64 0] 73 (0, 0)) := (hg5.block w4.heap.size (by simpa using hs6) (fun e0 => by cases e0)).trans h6
  have y0 : w5.cell? ⟨w4.heap.size, 0, none⟩ = some (.slice none 0 0) := by simp [World.cell?, h7]
  have yf : w5.frozen? ⟨w4.heap.size, 0, none⟩ = false := by simp [World.frozen?, h7]
  have hC5 : (fun W : World => W.cell? ⟨pb, 0, none⟩ = some (.slice a bs.length cap)) w5 := hg5.cell (by simpa using k3) (fun e0 => by cases e0)
  have hC6 : (fun W : World => W.cell? ⟨pb, 0, none⟩ = some (.slice a bs.length cap)) (w5.setCell ⟨w4.heap.size, 0, none⟩ v') := by
    show (w5.setCell ⟨w4.heap.size, 0, none⟩ v').cell? ⟨pb, 0, none⟩ = _
    rw [World.cell?_of_block (w := w5) (Below.heap_setCell _ _ _ _ (fun e0 => by simp only at e0; omega))]
    exact hC5
  have hrow : ∀ g, v'.ownBlock = some g → w4.heap.size + 1 ≤ g := fun g hgg => by
    rcases hat5 with h1 | h1
    · rw [h1] at hgg; cases hgg
    · rw [h1] at hgg; cases hgg; show _ ≤ w6.heap.size; omega
  have hk7 : Keeps (· = s.m) w4 (w5.setCell ⟨w4.heap.size, 0, none⟩ v') := (((HK6.out.drew).grown hg5 (fun _ _ e0 => by cases e0))).setCell (fun e0 => by simp at e0) _
  rw [List.nil_append] at hown5
  have HP := hid (HD4.out.added (w0 := w) HB.out HNO.out (v' := v') (bs := bs) (w7 := w5.setCell ⟨w4.heap.size, 0, none⟩ v') (HR.out.same (by
      rw [Below.heap_setCell _ _ _ _ (show s.m ≠ w4.heap.size by omega)]
      exact hg5.block s.m (by simp; omega) (fun e0 => by cases e0)))
    (by have := heap_setCell_at (o := 0) h7 v'; simpa using this) (hown5.same (fun g hgg => Below.heap_setCell _ _ _ _ (by have := hrow g hgg; simp only; omega))) hrow hk7)
  obtain ⟨a5, g5, o5, c5, hv5, _, _, _⟩ := hown5.rd
  subst hv5
  clear hown hsrc hown5 hg5 hat5 h7 h6 x0 k3 hk7 hrow
  refine hK _ _ hC5 ?_
  clear hK K
  refine takeC (i := 7) (v := ?_) rfl (by kernel_rfl) (by kernel_rfl) (by kernel_rfl) (fun _ _ _ h => h) (by assumption) (Or.inl ⟨?_, ?_⟩) (fun K hK => ?_)
  rotate_left
  · rfl
  · (intro W hW; skip; go_simp; first | done | with_reducible rfl)
  (try go_simp)
  refine hK _ _ ?_
  clear hK K
  refine takeC (i := 8) (v := ?_) rfl (by kernel_rfl) (by kernel_rfl) (by kernel_rfl) (fun _ _ _ h => h) (by assumption) (Or.inl ⟨?_, ?_⟩) (fun K hK => ?_)
  rotate_left
  · rfl
  · (intro W hW; skip; go_simp; first | done | with_reducible rfl)
  (try go_simp)
  refine hK _ _ ?_
  clear hK K
  refine callC (k := 9) (by kernel_rfl) rfl ?_ (fun K hK => ?_)
  · rfl
  go_simp
  refine hK _ _ (by assumption) ?_
  clear hK K
  refine doneC (by kernel_rfl) ?_
  clear hC6 y0 yf
  go_wp2
  go_ret
  exact IntR.mk HP.out

theorem AppendCall_any (w : World) (pd pn pb p : Nat) (s : DkS) (n : SKey) (a : Option Addr) (g off cap : Nat) (bs : List UInt8) (hD : Dk w p s) (hG : s.abs.Good) (kd : w.cell? ⟨pd, 0, none⟩ = some (.pointer (some ⟨p, 0, none⟩))) (kn : w.cell? ⟨pn, 0, none⟩ = some (.string n.1)) (kb : w.cell? ⟨pb, 0, none⟩ = some (.slice a bs.length cap)) (hb : RdS encB 1 w a g off bs) (hbl : bs.length ≤ 1073741824) (hbs : bs ≠ [] → ¬ s.Blk p g) (hbn : ¬ s.Blk p pn ∧ ¬ s.Blk p pb ∧ ¬ s.Blk p pd) :
    Calls Try.prog 36 #[.pointer (some ⟨pd, 0, none⟩), .pointer (some ⟨pn, 0, none⟩), .pointer (some ⟨pb, 0, none⟩)] w (IntR (DkPost w p s (appendA n bs s.abs))) := by
  cases hok : nameB n.1
  case false => exact AppendCall_bad w pd pn pb p s n a g off cap bs hD hG kd kn kb hb hbl hbs hbn hok
  case true =>
    by_cases hfull : s.room - (totL s.abs.l : Int) < (bs.length : Int)
    · exact AppendCall_full w pd pn pb p s n a g off cap bs hD hG kd kn kb hb hbl hbs hbn hok hfull
    · cases hno : aget s.l n
      case none =>
        by_cases hm : s.l.length = 16
        · exact AppendCall_many w pd pn pb p s n a g off cap bs hD hG kd kn kb hb hbl hbs hbn hok hfull hno hm
        · exact AppendCall_new w pd pn pb p s n a g off cap bs hD hG kd kn kb hb hbl hbs hbn hok hfull hno hm
      case some e => exact AppendCall_old w pd pn pb p s n a g off cap bs hD hG kd kn kb hb hbl hbs hbn hok hfull e hno
theorem box3 (w : World) (a b c : Array Value) (t u v : TypeId) (i : Nat) : (((w.alloc (.cells a t)).alloc (.cells b u)).alloc (.cells c v)).cell? ⟨w.heap.size, i, none⟩ = a[i]? ∧ (((w.alloc (.cells a t)).alloc (.cells b u)).alloc (.cells c v)).cell? ⟨w.heap.size + 1, i, none⟩ = b[i]? ∧ (((w.alloc (.cells a t)).alloc (.cells b u)).alloc (.cells c v)).cell? ⟨w.heap.size + 1 + 1, i, none⟩ = c[i]? := by
  refine ⟨?_, ?_, ?_⟩
  · rw [World.cell?_alloc_lt _ _ _ (by simp; omega)]; simp
  · rw [World.cell?_alloc_lt _ _ _ (by simp)]
    simp
  · have := World.cell?_alloc_new ((w.alloc (.cells a t)).alloc (.cells b u)) c v i
    simpa using this
/-- A method that boxes its words, and does a deed. -/
theorem DkPost.boxed {w w3 : World} {p : Nat} {s : DkS} {r : AD × Int} (hE : Ext w w3) {x : Int} {w' : World} (h : DkPost w3 p s r x w') : DkPost w p s r x w' := by
  obtain ⟨s', hD, ha, hx, hb, hk⟩ := h
  exact ⟨s', hD, ha, hx, fun g hg => (hb g hg).imp id (fun h1 => Nat.le_trans hE.size h1), (hE.keeps (S := s.Blk p)).trans hk (fun _ _ h => h)⟩
theorem Dk.blk_lt {w : World} {p : Nat} {s s1 : DkS} (h : Dk w p s) (hs : ∀ g, s1.Blk p g ↔ s.Blk p g) {b : Nat} (hb : w.heap.size ≤ b) : ¬ s1.Blk p b := fun hx => by
  have := h.lt b ((hs b).1 hx)
  omega
set_option maxRecDepth 100000 in
set_option maxHeartbeats 3200000 in
theorem DiskAppend_any (w : World) (p : Nat) (s : DkS) (n : SKey) (a : Option Addr) (g off cap : Nat) (bs : List UInt8) (hD : Dk w p s) (hG : s.abs.Good) (hb : RdS encB 1 w a g off bs) (hbl : bs.length ≤ 1073741824) (hbs : bs ≠ [] → ¬ s.Blk p g) :
    Calls Try.prog 12 #[.pointer (some ⟨p, 0, none⟩), .string n.1, .slice a bs.length cap] w (IntR (DkPost w p s (deedA (appendA n bs) s.abs))) := by
  have hmf : ∀ (fn : Fn) (first cap : Array Value) (w : World), (Instr.makeFunc fn first cap).run Try.prog w = .ok (.func fn first cap) w := fun _ _ _ _ => rfl
  have eg : ∀ args W, (callFunc 36 args).run Try.prog W = .ok (.enter 36 args) W := enters_of Try.func36 (by kernel_rfl) rfl
  have hE : Ext w (((w.alloc (.cells #[.pointer (some ⟨p, 0, none⟩)] 24)).alloc (.cells #[.string n.1] 9)).alloc (.cells #[.slice a bs.length cap] 22)) := (((Ext.refl w).alloc _).alloc _).alloc _
  have hI := deed_any (((w.alloc (.cells #[.pointer (some ⟨p, 0, none⟩)] 24)).alloc (.cells #[.string n.1] 9)).alloc (.cells #[.slice a bs.length cap] 22)) p s (hD.ext hE) hG (appendA n bs) 36 #[.pointer (some ⟨w.heap.size, 0, none⟩), .pointer (some ⟨w.heap.size + 1, 0, none⟩), .pointer (some ⟨w.heap.size + 1 + 1, 0, none⟩)] eg (fun W s1 hW ha hbk hk => by
    have hpl := hD.lt p (Or.inl rfl)
    refine AppendCall_any W w.heap.size (w.heap.size + 1) (w.heap.size + 1 + 1) p s1 n a g off cap bs hW (by rw [ha]; exact hG.burnt) (hk.cell (by omega) ((box3 w _ _ _ _ _ _ 0).1.trans rfl)) (hk.cell (by omega) ((box3 w _ _ _ _ _ _ 0).2.1.trans rfl)) (hk.cell (by omega) ((box3 w _ _ _ _ _ _ 0).2.2.trans rfl)) ((hb.below hE.below).keeps hk (fun hne e0 => hbs hne (Or.inl e0))) hbl (fun hne hx => hbs hne ((hbk g).1 hx)) ⟨hD.blk_lt hbk (by omega), hD.blk_lt hbk (by omega), hD.blk_lt hbk (by omega)⟩)
  have HI := hid (hI.mono fun e w' h => h.mono fun x hx => DkPost.boxed hE hx)
  clear hI eg hE hb hG hbs hD
  go_enter Try.func12, Try.ntmps12
  go_wp2_with fail
  refine HI.out.mono ?_
  rintro e w2 ⟨x, rfl, hx⟩
  have HX := hid hx
  clear hx HI
  go_wp2
  go_ret
  exact IntR.mk HX.out
end Go.Proofs.Ytopabknlgmihpaa
