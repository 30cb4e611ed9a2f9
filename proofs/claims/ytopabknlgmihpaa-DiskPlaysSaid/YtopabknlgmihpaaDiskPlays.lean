/- shows; the law DiskPlays. -/
import Derived.Test.YtopabknlgmihpaaRef12K
import Derived.Test.YtopabknlgmihpaaDiskRoom
namespace Go.Proofs.Ytopabknlgmihpaa
open Go Go.RowKit Go.MapKept Go.ChangeMaps Go.Maps

theorem readA_small {d : AD} (h : d.Good) (n : SKey) : (readA n d).1.length ≤ 1073741824 := by
  unfold readA
  split
  · simp
  · cases hg : aget d.l n with
    | none => simp
    | some y =>
      have h1 := (h.len_get hg).2
      have h2 := h.room.2
      simp only
      omega
theorem actA_small {d : AD} (h : d.Good) (x : DAct) : (actA x d).2.1.length ≤ 1073741824 := by
  unfold actA
  repeat' split
  all_goals first | exact readA_small h x.A | simp
/-- How far the two disks have come. -/
structure PlayAt (w wr : World) (p q : Nat) (s : DkS) (r : RkS) : Prop where
  dk : Dk wr p s
  rk : Rk wr q r
  good : s.abs.Good
  sim : Sim s.abs r.abs
  bs : ∀ g, s.Blk p g → w.heap.size ≤ g
  br : ∀ g, r.Blk q g → w.heap.size ≤ g
  dj : ∀ g, s.Blk p g → ¬ r.Blk q g
  bel : Below w.heap.size w wr
theorem PlayAt.below {w wr w' : World} {p q : Nat} {s : DkS} {r : RkS} (h : PlayAt w wr p q s r) (hb : Below wr.heap.size wr w') : PlayAt w w' p q s r :=
  ⟨h.dk.below hb, h.rk.below hb, h.good, h.sim, h.bs, h.br, h.dj, h.bel.trans (hb.mono h.bel.size)⟩
set_option maxRecDepth 100000 in
set_option maxHeartbeats 6400000 in
theorem shows_any (w : World) (p : Nat) (s : DkS) (q : Nat) (r : RkS) (hD : Dk w p s) (hG : s.abs.Good) (hR : Rk w q r) (hS : Sim s.abs r.abs) :
    Calls Try.prog 27 #[.pointer (some ⟨p, 0, none⟩), .pointer (some ⟨q, 0, none⟩)] w fun e w' => e = .returned (.bool true) ∧ Below w.heap.size w w' := by
  have hG2 := RkG.of_sim hS hG
  have HQ0 := hid (fun W (hW : Below w.heap.size w W) => (hR.below hW).cells)
  have HD := hid hD
  have HU := hid (fun W (hW : Below w.heap.size w W) => used_any W p s (hD.below hW) hG)
  have HN := hid (fun W (hW : Below w.heap.size w W) => names_any W p s (hD.below hW) hG)
  have hdn : s.down = r.down := hS.down.symm
  obtain ⟨aL, gL, oL, cL, hv, hcL, hrr, _⟩ := hR.own.rd encF_len
  rw [hv] at HQ0
  cases hdr : r.down with
  | true =>
    rw [hdr] at hdn
    have HDN := hid hdn
    have hu : usedD s.abs = 0 := by unfold usedD; rw [show s.abs.down = s.down from rfl, hdn]; rfl
    have hn : namesD s.abs = [] := by unfold namesD; rw [show s.abs.down = s.down from rfl, hdn]; rfl
    rw [hu] at HU
    rw [hn] at HN
    rw [hdr] at HQ0
    have HQ := hid HQ0.out
    clear HQ0
    clear hD hG hR hS hG2 hv hrr hu hn hdr
    go_enter Try.func27, Try.ntmps27
    go_wp2_with fail
    refine wp_region_C (fun W => Below w.heap.size w W) (by kernel_rfl) ?_
    have hC0 : (fun W => Below w.heap.size w W) w.drew := ((Ext.refl w).drew).below
    refine takeC (i := 0) (v := ?_) rfl (by kernel_rfl) (by kernel_rfl) (by kernel_rfl) (fun _ _ _ h => h) (by assumption) (Or.inl ⟨?_, ?_⟩) (fun K hK => ?_)
    rotate_left
    · rfl
    · (intro W hW; (obtain ⟨_, _, _, x3⟩ := HQ.out W hW); go_simp; first | done | with_reducible rfl)
    (try go_simp)
    refine hK _ _ ?_
    clear hK K
    refine takeC (i := 2) (v := ?_) rfl (by kernel_rfl) (by kernel_rfl) (by kernel_rfl) (fun _ _ _ h => h) (by assumption) (Or.inl ⟨?_, ?_⟩) (fun K hK => ?_)
    rotate_left
    · rfl
    · (intro W hW; (obtain ⟨_, _, _, x3⟩ := HQ.out W hW); go_simp; first | done | with_reducible rfl)
    (try go_simp)
    refine hK _ _ ?_
    clear hK K
    refine takeC (i := 3) (v := ?_) rfl (by kernel_rfl) (by kernel_rfl) (by kernel_rfl) (fun _ _ _ h => h) (by assumption) (Or.inl ⟨?_, ?_⟩) (fun K hK => ?_)
    rotate_left
    · rfl
    · (intro W hW; (obtain ⟨_, _, _, x3⟩ := HQ.out W hW); go_simp; first | done | with_reducible rfl)
    (try go_simp)
    refine hK _ _ ?_
    clear hK K
    refine takeC (i := 4) (v := ?_) rfl (by kernel_rfl) (by kernel_rfl) (by kernel_rfl) (fun _ _ _ h => h) (by assumption) (Or.inl ⟨?_, ?_⟩) (fun K hK => ?_)
    rotate_left
    · rfl
    · (intro W hW; (obtain ⟨_, _, _, x3⟩ := HQ.out W hW); go_simp; first | done | with_reducible rfl)
    (try go_simp)
    refine hK _ _ ?_
    clear hK K
    refine takeC (i := 5) (v := ?_) rfl (by kernel_rfl) (by kernel_rfl) (by kernel_rfl) (fun _ _ _ h => h) (by assumption) (Or.inl ⟨?_, ?_⟩) (fun K hK => ?_)
    rotate_left
    · rfl
    · (intro W hW; (obtain ⟨_, _, _, x3⟩ := HQ.out W hW); go_simp; first | done | with_reducible rfl)
    (try go_simp)
    refine hK _ _ ?_
    clear hK K
    refine callC (k := 1) (by kernel_rfl) rfl ?_ (fun K hK => ?_)
    · rfl
    go_simp
    refine (DiskDown_any _ p s (HD.out.below hC0)).mono ?_
    rw [hdn]
    rintro e w1 ⟨rfl, rfl⟩
    go_wp2
    refine hK _ _ hC0 ?_
    clear hK K
    refine takeC (i := 6) (v := ?_) rfl (by kernel_rfl) (by kernel_rfl) (by kernel_rfl) (fun _ _ _ h => h) (by assumption) (Or.inl ⟨?_, ?_⟩) (fun K hK => ?_)
    rotate_left
    · rfl
    · (intro W hW; (obtain ⟨_, _, _, x3⟩ := HQ.out W hW); go_simp; first | done | with_reducible rfl)
    (try go_simp)
    refine hK _ _ ?_
    clear hK K
    refine doneC (by kernel_rfl) ?_
    obtain ⟨x0, _, _, x3⟩ := HQ.out _ hC0
    clear hdn
    go_wp2_with fail
    refine (HN.out _ hC0).mono ?_
    rintro e w2 ⟨v2, rfl, hown2, hb2⟩
    obtain ⟨a2, g2, o2, c2, rfl, _, _, _⟩ := hown2.rd encN_len
    have hC2 : Below w.heap.size w w2 := hC0.trans (hb2.mono (Nat.le_refl _))
    clear hown2 hb2 x0 x3
    go_wp2_with fail
    refine (HU.out _ hC2).mono ?_
    rintro e w3 ⟨rfl, hE3⟩
    have HB := hid (hC2.trans (hE3.below.mono hC2.size))
    clear hE3 hC2 hC0
    go_wp2
    go_ret
    exact ⟨rfl, HB.out⟩
  | false =>
    rw [hdr] at hdn
    have hu : usedD s.abs = totR r.l := by unfold usedD; rw [show s.abs.down = s.down from rfl, hdn]; rw [← totD_out, ← hS.tot]; rfl
    have hn : namesD s.abs = r.l.map (fun f => keyL f.name) := by
      unfold namesD
      rw [show s.abs.down = s.down from rfl, hdn, hS.names, show r.abs.l = r.l.map RF.out from rfl, List.map_map]
      rfl
    rw [hu] at HU
    rw [hn] at HN
    rw [hdr] at HQ0
    have HQ := hid HQ0.out
    have HUR := hid (fun W (hW : Below w.heap.size w W) => RefUsed_any W q r (hR.below hW) (by have := hG2.len; omega) hG2.tot)
    have HRR := hid hrr
    obtain ⟨l, hl⟩ : ∃ l, l = r.l := ⟨_, rfl⟩
    rw [← hl] at HU HN HUR HRR HQ
    have hll := hG2.len
    rw [← hl] at hll
    clear hD hG hR hS hG2 hv hrr hu hn hdr HQ0 hl hcL
    go_enter Try.func27, Try.ntmps27
    go_wp2_with fail
    refine wp_region_C (fun W => Below w.heap.size w W) (by kernel_rfl) ?_
    have hC0 : (fun W => Below w.heap.size w W) w.drew := ((Ext.refl w).drew).below
    refine takeC (i := 0) (v := ?_) rfl (by kernel_rfl) (by kernel_rfl) (by kernel_rfl) (fun _ _ _ h => h) (by assumption) (Or.inl ⟨?_, ?_⟩) (fun K hK => ?_)
    rotate_left
    · rfl
    · (intro W hW; (obtain ⟨_, _, _, x3⟩ := HQ.out W hW); go_simp; first | done | with_reducible rfl)
    (try go_simp)
    refine hK _ _ ?_
    clear hK K
    refine takeC (i := 2) (v := ?_) rfl (by kernel_rfl) (by kernel_rfl) (by kernel_rfl) (fun _ _ _ h => h) (by assumption) (Or.inl ⟨?_, ?_⟩) (fun K hK => ?_)
    rotate_left
    · rfl
    · (intro W hW; (obtain ⟨_, _, _, x3⟩ := HQ.out W hW); go_simp; first | done | with_reducible rfl)
    (try go_simp)
    refine hK _ _ ?_
    clear hK K
    refine takeC (i := 3) (v := ?_) rfl (by kernel_rfl) (by kernel_rfl) (by kernel_rfl) (fun _ _ _ h => h) (by assumption) (Or.inl ⟨?_, ?_⟩) (fun K hK => ?_)
    rotate_left
    · rfl
    · (intro W hW; (obtain ⟨_, _, _, x3⟩ := HQ.out W hW); go_simp; first | done | with_reducible rfl)
    (try go_simp)
    refine hK _ _ ?_
    clear hK K
    refine takeC (i := 4) (v := ?_) rfl (by kernel_rfl) (by kernel_rfl) (by kernel_rfl) (fun _ _ _ h => h) (by assumption) (Or.inl ⟨?_, ?_⟩) (fun K hK => ?_)
    rotate_left
    · rfl
    · (intro W hW; (obtain ⟨_, _, _, x3⟩ := HQ.out W hW); go_simp; first | done | with_reducible rfl)
    (try go_simp)
    refine hK _ _ ?_
    clear hK K
    refine takeC (i := 5) (v := ?_) rfl (by kernel_rfl) (by kernel_rfl) (by kernel_rfl) (fun _ _ _ h => h) (by assumption) (Or.inl ⟨?_, ?_⟩) (fun K hK => ?_)
    rotate_left
    · rfl
    · (intro W hW; (obtain ⟨_, _, _, x3⟩ := HQ.out W hW); go_simp; first | done | with_reducible rfl)
    (try go_simp)
    refine hK _ _ ?_
    clear hK K
    refine callC (k := 1) (by kernel_rfl) rfl ?_ (fun K hK => ?_)
    · rfl
    go_simp
    refine (DiskDown_any _ p s (HD.out.below hC0)).mono ?_
    rw [hdn]
    rintro e w1 ⟨rfl, rfl⟩
    go_wp2
    refine hK _ _ hC0 ?_
    clear hK K
    refine takeC (i := 6) (v := ?_) rfl (by kernel_rfl) (by kernel_rfl) (by kernel_rfl) (fun _ _ _ h => h) (by assumption) (Or.inl ⟨?_, ?_⟩) (fun K hK => ?_)
    rotate_left
    · rfl
    · (intro W hW; (obtain ⟨_, _, _, x3⟩ := HQ.out W hW); go_simp; first | done | with_reducible rfl)
    (try go_simp)
    refine hK _ _ ?_
    clear hK K
    refine doneC (by kernel_rfl) ?_
    obtain ⟨x0, _, _, x3⟩ := HQ.out _ hC0
    clear hdn
    go_wp2_with fail
    refine (HN.out _ hC0).mono ?_
    rintro e w2 ⟨v2, rfl, hown2, hb2⟩
    obtain ⟨a2, g2, o2, c2, rfl, hc2, hr2, _⟩ := hown2.rd encN_len
    have hC2 : Below w.heap.size w w2 := hC0.trans (hb2.mono (Nat.le_refl _))
    have hln : (l.map (fun f => keyL f.name)).length = l.length := List.length_map _
    have HR2 := hid hr2
    have HLN := hid hln
    obtain ⟨x0, _, _, _⟩ := HQ.out _ hC2
    rw [hln]
    clear hown2 hb2 x3 hr2 hln
    go_wp2_with fail
    refine (HU.out _ hC2).mono ?_
    rintro e w3 ⟨rfl, hE3⟩
    have hC3 : Below w.heap.size w w3 := hC2.trans (hE3.below.mono hC2.size)
    have h23 := hE3.below
    clear hE3 hC0
    go_wp2_with fail
    refine (HUR.out _ hC3).mono ?_
    rintro e w4 ⟨rfl, hE4⟩
    have HB4 := hid (hC3.trans (hE4.below.mono hC3.size))
    have HB24 := hid (h23.trans (hE4.below.mono h23.size))
    have HC2 := hid hC2
    clear hE4 hC3 h23 x0 hC2
    go_wp2_with fail
    go_loopw [6] (fun s6 wr => ∃ k : Nat, k ≤ l.length ∧ s6 = .int .i64 k ∧ Below w2.heap.size w2 wr) (fun s6 _ => l.length - (intOf s6).toNat)
    case atStart => exact ⟨0, Nat.zero_le _, rfl, HB24.out⟩
    case round =>
      obtain ⟨k, hk, rfl, hbr⟩ := hrel
      by_cases hlt : k < l.length
      · have hget : l[k]? = some l[k] := by simp [hlt]
        have hix := HRR.out.index (P := Try.prog) Try.underlying79 sizeF hlt cL
        have hjx := HR2.out.index (P := Try.prog) Try.underlying47 sizeStr (i := k) (by rw [HLN.out]; exact hlt) c2
        rw [HLN.out] at hjx
        simp only [Nat.mul_one] at hjx
        have HX := hid (fun W (hW : Below w2.heap.size w2 W) => RdF (HRR.out.below (HC2.out.trans (hW.mono HC2.out.size))) hget)
        have HY := hid (fun W (hW : Below w2.heap.size w2 W) => show W.cell? ⟨g2, o2 + k, none⟩ = some (.string l[k].name.1) from by
          have h1 := (HR2.out.below hW).cells k (keyL l[k].name) (by rw [List.getElem?_map, hget]; rfl) 0 _ rfl
          rw [vS_keyL] at h1
          simpa [vS] using h1)
        have HQ2 := hid (fun W (hW : Below w2.heap.size w2 W) => (HQ.out W (HC2.out.trans (hW.mono HC2.out.size))).1)
        have hne : ∀ x : ByteArray, (x.toList != x.toList) = false := fun x => by unfold bne; simp
        have HBR := hid hbr
        generalize l[k] = x at *
        have hnx := hne x.name.1
        clear hne hget
        go_wp2_with fail
        refine wp_region_C (fun W => Below w2.heap.size w2 W) (by kernel_rfl) ?_
        have hC0 : (fun W => Below w2.heap.size w2 W) wr.drew := bdrewN HBR.out 1
        clear hbr
        refine takeC (i := 0) (v := ?_) rfl (by kernel_rfl) (by kernel_rfl) (by kernel_rfl) (fun _ _ _ h => h) (by assumption) (Or.inl ⟨?_, ?_⟩) (fun K hK => ?_)
        rotate_left
        · rfl
        · (intro W hW; (obtain ⟨f0, _, _⟩ := HX.out W hW; have f1 := HY.out W hW; have f2 := HQ2.out W hW); go_simp; first | done | with_reducible rfl)
        (try go_simp)
        refine hK _ _ ?_
        clear hK K
        refine takeC (i := 1) (v := ?_) rfl (by kernel_rfl) (by kernel_rfl) (by kernel_rfl) (fun _ _ _ h => h) (by assumption) (Or.inl ⟨?_, ?_⟩) (fun K hK => ?_)
        rotate_left
        · rfl
        · (intro W hW; (obtain ⟨f0, _, _⟩ := HX.out W hW; have f1 := HY.out W hW; have f2 := HQ2.out W hW); go_simp; first | done | with_reducible rfl)
        (try go_simp)
        refine hK _ _ ?_
        clear hK K
        refine takeC (i := 2) (v := ?_) rfl (by kernel_rfl) (by kernel_rfl) (by kernel_rfl) (fun _ _ _ h => h) (by assumption) (Or.inl ⟨?_, ?_⟩) (fun K hK => ?_)
        rotate_left
        · rfl
        · (intro W hW; (obtain ⟨f0, _, _⟩ := HX.out W hW; have f1 := HY.out W hW; have f2 := HQ2.out W hW); go_simp; first | done | with_reducible rfl)
        (try go_simp)
        refine hK _ _ ?_
        clear hK K
        refine takeC (i := 3) (v := ?_) rfl (by kernel_rfl) (by kernel_rfl) (by kernel_rfl) (fun _ _ _ h => h) (by assumption) (Or.inl ⟨?_, ?_⟩) (fun K hK => ?_)
        rotate_left
        · rfl
        · (intro W hW; (obtain ⟨f0, _, _⟩ := HX.out W hW; have f1 := HY.out W hW; have f2 := HQ2.out W hW); go_simp; first | done | with_reducible rfl)
        (try go_simp)
        refine hK _ _ ?_
        clear hK K
        refine takeC (i := 4) (v := ?_) rfl (by kernel_rfl) (by kernel_rfl) (by kernel_rfl) (fun _ _ _ h => h) (by assumption) (Or.inl ⟨?_, ?_⟩) (fun K hK => ?_)
        rotate_left
        · rfl
        · (intro W hW; (obtain ⟨f0, _, _⟩ := HX.out W hW; have f1 := HY.out W hW; have f2 := HQ2.out W hW); go_simp; first | done | with_reducible rfl)
        (try go_simp)
        refine hK _ _ ?_
        clear hK K
        refine takeC (i := 5) (v := ?_) rfl (by kernel_rfl) (by kernel_rfl) (by kernel_rfl) (fun _ _ _ h => h) (by assumption) (Or.inl ⟨?_, ?_⟩) (fun K hK => ?_)
        rotate_left
        · rfl
        · (intro W hW; (obtain ⟨f0, _, _⟩ := HX.out W hW; have f1 := HY.out W hW; have f2 := HQ2.out W hW); go_simp; first | done | with_reducible rfl)
        (try go_simp)
        refine hK _ _ ?_
        clear hK K
        refine takeC (i := 6) (v := ?_) rfl (by kernel_rfl) (by kernel_rfl) (by kernel_rfl) (fun _ _ _ h => h) (by assumption) (Or.inl ⟨?_, ?_⟩) (fun K hK => ?_)
        rotate_left
        · rfl
        · (intro W hW; (obtain ⟨f0, _, _⟩ := HX.out W hW; have f1 := HY.out W hW; have f2 := HQ2.out W hW); go_simp; first | done | with_reducible rfl)
        (try go_simp)
        refine hK _ _ ?_
        clear hK K
        refine takeC (i := 7) (v := ?_) rfl (by kernel_rfl) (by kernel_rfl) (by kernel_rfl) (fun _ _ _ h => h) (by assumption) (Or.inl ⟨?_, ?_⟩) (fun K hK => ?_)
        rotate_left
        · rfl
        · (intro W hW; (obtain ⟨f0, _, _⟩ := HX.out W hW; have f1 := HY.out W hW; have f2 := HQ2.out W hW); go_simp; first | done | with_reducible rfl)
        (try go_simp)
        refine hK _ _ ?_
        clear hK K
        refine takeC (i := 8) (v := ?_) rfl (by kernel_rfl) (by kernel_rfl) (by kernel_rfl) (fun _ _ _ h => h) (by assumption) (Or.inl ⟨?_, ?_⟩) (fun K hK => ?_)
        rotate_left
        · rfl
        · (intro W hW; (obtain ⟨f0, _, _⟩ := HX.out W hW; have f1 := HY.out W hW; have f2 := HQ2.out W hW); go_simp; first | done | with_reducible rfl)
        (try go_simp)
        refine hK _ _ ?_
        clear hK K
        refine takeC (i := 9) (v := ?_) rfl (by kernel_rfl) (by kernel_rfl) (by kernel_rfl) (fun _ _ _ h => h) (by assumption) (Or.inl ⟨?_, ?_⟩) (fun K hK => ?_)
        rotate_left
        · rfl
        · (intro W hW; (obtain ⟨f0, _, _⟩ := HX.out W hW; have f1 := HY.out W hW; have f2 := HQ2.out W hW); go_simp; first | done | with_reducible rfl)
        (try go_simp)
        refine hK _ _ ?_
        clear hK K
        refine takeC (i := 10) (v := ?_) rfl (by kernel_rfl) (by kernel_rfl) (by kernel_rfl) (fun _ _ _ h => h) (by assumption) (Or.inl ⟨?_, ?_⟩) (fun K hK => ?_)
        rotate_left
        · rfl
        · (intro W hW; (obtain ⟨f0, _, _⟩ := HX.out W hW; have f1 := HY.out W hW; have f2 := HQ2.out W hW); go_simp; first | done | with_reducible rfl)
        (try go_simp)
        refine hK _ _ ?_
        clear hK K
        refine takeC (i := 11) (v := ?_) rfl (by kernel_rfl) (by kernel_rfl) (by kernel_rfl) (fun _ _ _ h => h) (by assumption) (Or.inl ⟨?_, ?_⟩) (fun K hK => ?_)
        rotate_left
        · rfl
        · (intro W hW; (obtain ⟨f0, _, _⟩ := HX.out W hW; have f1 := HY.out W hW; have f2 := HQ2.out W hW); go_simp; first | done | with_reducible rfl)
        (try go_simp)
        refine hK _ _ ?_
        clear hK K
        refine takeC (i := 12) (v := ?_) rfl (by kernel_rfl) (by kernel_rfl) (by kernel_rfl) (fun _ _ _ h => h) (by assumption) (Or.inl ⟨?_, ?_⟩) (fun K hK => ?_)
        rotate_left
        · rfl
        · (intro W hW; (obtain ⟨f0, _, _⟩ := HX.out W hW; have f1 := HY.out W hW; have f2 := HQ2.out W hW); go_simp; first | done | with_reducible rfl)
        (try go_simp)
        refine hK _ _ ?_
        clear hK K
        refine doneC (by kernel_rfl) ?_
        have HB := hid hC0
        clear hC0
        go_wp2_with fail
        go_roundw
        case rel => exact ⟨k + 1, by omega, by go_num, HB.out⟩
        case measure => simp [intOf]; omega
      · have HB := hid (HC2.out.trans (hbr.mono HC2.out.size))
        clear hbr
        go_wp2_with fail
        go_ret
        exact ⟨rfl, HB.out⟩
set_option maxRecDepth 100000 in
set_option maxHeartbeats 6400000 in
theorem DP_great (w : World) (room : Int) (a : Option Addr) (g off cap : Nat) (l : List DAct) (h : RdS encD 6 w a g off l) (hl : l.length ≤ cap) (hcm : cap ≤ maxLen) (hg : greatD l = true ∨ 1073741824 < room) :
    Calls Try.prog 7 #[.int .i64 room, .slice a l.length cap] w fun e w' => e = .returned (.bool true) ∧ Below w.heap.size w w' := by
  have hG := greatD_any _ a g off cap l h hl hcm
  have hcs : greatD l = true ∨ (greatD l = false ∧ 1073741824 < room) := by
    cases hgd : greatD l with
    | true => exact Or.inl rfl
    | false =>
      rcases hg with h1 | h1
      · rw [hgd] at h1; cases h1
      · exact Or.inr ⟨rfl, h1⟩
  clear hg h
  rcases hcs with hc | ⟨hc, hr⟩
  all_goals
    rw [hc] at hG
    have HG := hid hG
    clear hG hc
    go_enter Try.func7, Try.ntmps7
    go_wp2_with fail
    refine HG.out.mono ?_
    rintro e w1 ⟨rfl, hE1⟩
    have HBB := hid hE1.below
    clear hE1
    go_wp2_with fail
    refine (DiskAwake _).mono ?_
    rintro e w9 ⟨rfl, hb9⟩
    have HF := hid (below_trans' HBB.out hb9)
    clear hb9
    go_wp2
    go_ret
    exact ⟨rfl, HF.out⟩
set_option maxRecDepth 100000 in
set_option maxHeartbeats 6400000 in
theorem DP_small (w : World) (room : Int) (a : Option Addr) (g off cap : Nat) (l : List DAct) (h : RdS encD 6 w a g off l) (hO : ∀ x ∈ l, OkD w x) (hl : l.length ≤ cap) (hcm : cap ≤ maxLen) (hg : greatD l = false) (hr : room ≤ 1073741824) :
    Calls Try.prog 7 #[.int .i64 room, .slice a l.length cap] w fun e w' => e = .returned (.bool true) ∧ Below w.heap.size w w' := by
  have hl60 : l.length ≤ 60 := by
    unfold greatD at hg
    rw [Bool.or_eq_false_iff] at hg
    have := hg.2
    simpa using this
  have hsm : ∀ x ∈ l, x.P.length ≤ 100 ∧ x.K.length ≤ 50 := by
    unfold greatD at hg
    rw [Bool.or_eq_false_iff, List.take_of_length_le hl60, List.any_eq_false] at hg
    intro x hx
    have := hg.1 x hx
    unfold greatA at this
    simp at this
    exact this
  have hG := greatD_any _ a g off cap l h hl hcm
  rw [hg] at hG
  have HG := hid hG
  clear hG hg
  go_enter Try.func7, Try.ntmps7
  go_wp2_with fail
  refine HG.out.mono ?_
  rintro e w1 ⟨rfl, hE1⟩
  have hb1 := hE1.below
  clear hE1
  go_wp2_with fail
  refine (DiskNew_any _ room).mono ?_
  rintro e w2 ⟨p, s0, rfl, hD0, ha0, hB0, hE2⟩
  have HD0 := hid hD0
  have HA0 := hid ha0
  have HB0 := hid hB0
  have HE2 := hid hE2
  have hs12 := hE2.size
  clear hD0 ha0 hB0 hE2
  go_wp2_with fail
  refine (RefNew12_any _ room).mono ?_
  rintro e w3 ⟨q, rfl, hR0, hq0, hE3⟩
  have hD0 := HD0.out.ext hE3
  have ha0 := HA0.out
  have hmx : 0 ≤ max room 0 ∧ max room 0 ≤ 1073741824 := by omega
  have hG0 : s0.abs.Good := by rw [ha0]; exact goodNew _ hmx.1 hmx.2
  have hS0 : Sim s0.abs (RkS.abs ⟨.slice none 0 0, [], max room 0, -1, false⟩) := by
    rw [ha0]
    exact ⟨rfl, rfl, rfl, List.Perm.refl _, List.Pairwise.nil⟩
  have hb3 : Below w.heap.size w w3 := hb1.trans ((HE2.out.trans hE3).below.mono hb1.size)
  have hBs0 : ∀ g, s0.Blk p g → w.heap.size ≤ g := fun g hg => Nat.le_trans hb1.size (HB0.out g hg)
  have hBq : ∀ g, RkS.Blk ⟨.slice none 0 0, [], max room 0, -1, false⟩ q g → w2.heap.size ≤ g := fun g hg => by
    rcases hg with rfl | hg | ⟨f, hf, _⟩
    · exact hq0
    · cases hg
    · cases hf
  have hBr0 : ∀ g, RkS.Blk ⟨.slice none 0 0, [], max room 0, -1, false⟩ q g → w.heap.size ≤ g := fun g hg => Nat.le_trans (Nat.le_trans hb1.size hs12) (hBq g hg)
  have hdj0 : ∀ g, s0.Blk p g → ¬ RkS.Blk ⟨.slice none 0 0, [], max room 0, -1, false⟩ q g := fun g h1 h2 => by
    have := HD0.out.lt g h1
    have := hBq g h2
    omega
  obtain ⟨r0, hr0⟩ : ∃ r0 : RkS, r0 = ⟨.slice none 0 0, [], max room 0, -1, false⟩ := ⟨_, rfl⟩
  rw [← hr0] at hR0 hS0 hBr0 hdj0
  have H0 := hid (⟨hD0, hR0, hG0, hS0, hBs0, hBr0, hdj0, hb3⟩ : PlayAt w w3 p q s0 r0)
  clear hD0 hR0 hG0 hS0 hBs0 hBr0 hdj0 hb3 hr0 ha0 hmx hBq hE3 hb1 hs12 hq0
  go_wp2_with fail
  go_loopw [7] (fun s7 wr => ∃ (k : Nat) (s : DkS) (r : RkS), k ≤ l.length ∧ s7 = .int .i64 k ∧ PlayAt w wr p q s r) (fun s7 _ => l.length - (intOf s7).toNat)
  case atStart => exact ⟨0, s0, r0, Nat.zero_le _, rfl, H0.out⟩
  case round =>
    clear H0
    obtain ⟨k, s, r, hk, rfl, hAt⟩ := hrel
    by_cases hlt : k < l.length
    · have hx := h.index (P := Try.prog) Try.underlying41 sizeD hlt cap
      have hget : l[k]? = some l[k] := by simp [hlt]
      have HCE := hid (fun W (hW : Below w.heap.size w W) => RdD (h.below hW) hget)
      have hOw := hO l[k] (List.getElem_mem hlt)
      have hsmx := hsm l[k] (List.getElem_mem hlt)
      generalize l[k] = x at *
      obtain ⟨hD, hR, hG, hS, hBs, hBr, hdj, hb⟩ := hAt
      have hsz := hb.size
      have hC := do_any wr p s x hD hG (hOw.below hb) (fun hne hx => by have := hOw.p.lt hne; have := hBs _ hx; omega) (fun hne hx => by have := hOw.k.lt hne; have := hBs _ hx; omega) (by omega)
      have hgood := actA_good x hOw.hn hG
      have hzl := actA_small hG x
      obtain ⟨hz, hsim⟩ := hS.act hG.len x
      have hW := fun W (hR : Rk W q r) (hW : Below w.heap.size w W) => want_any W q r x hR (RkG.of_sim hS hG) (hOw.below hW) (fun hne hx => by have := hOw.p.lt hne; have := hBr _ hx; omega) (fun hne hx => by have := hOw.k.lt hne; have := hBr _ hx; omega) (by omega) (by omega)
      generalize actA x s.abs = A at *
      generalize wantD x r.abs = B at *
      obtain ⟨d', zb, zi⟩ := A
      obtain ⟨r', yb, yi⟩ := B
      simp only [Prod.mk.injEq] at hz
      obtain ⟨rfl, rfl⟩ := hz
      simp only at hgood hsim hzl
      obtain ⟨c0, c1, c2, c3, c4, c5⟩ := HCE.out wr hb
      have HC := hid hC
      have HW := hid hW
      have HD := hid hD
      have HR := hid hR
      have HBS := hid hBs
      have HBR := hid hBr
      have HDJ := hid hdj
      have HB := hid hb
      have HGD := hid hgood
      have HSM := hid hsim
      have HH := hid h
      have HOO := hid hO
      have HSS := hid hsm
      have HOW := hid hOw
      clear hC hW hD hR hG hS hBs hBr hdj hb hgood hsim h hO hsm hOw hget
      go_wp2_with fail
      refine HC.out.mono ?_
      rintro e w4 ⟨v4, rfl, ho4, hf4, s4, hD4, ha4, hB4, hk4⟩
      simp only at ho4 ha4
      have hs4 := hk4.size
      have hR4 : Rk w4 q r := HR.out.keeps hk4 (fun g hg hs => HDJ.out g hs hg)
      have hb4 : Below w.heap.size w w4 := HB.out.trans (hk4.below hsz (fun g hg => HBS.out g hg))
      have HD4 := hid hD4
      have HA4 := hid ha4
      have HB4 := hid hB4
      have HO4 := hid ho4
      have HF4 := hid hf4
      have HR4 := hid hR4
      have HBW4 := hid hb4
      obtain ⟨e0, e1, e2, e3, e4, e5⟩ := HCE.out w4 hb4
      clear ho4 hf4 hD4 ha4 hB4 hk4 hR4 hb4 c0 c1 c2 c3 c4 c5
      go_wp2_with fail
      refine (HW.out _ HR4.out HBW4.out).mono ?_
      rintro e w5 ⟨v5, rfl, ho5, hf5, r5, hR5, hra5, hB5, hk5⟩
      simp only at ho5 hra5
      have hs5 := hk5.size
      have hlt4 : ∀ g, r.Blk q g → g < wr.heap.size := fun g hg => HR.out.lt g hg
      have hD5 : Dk w5 p s4 := HD4.out.keeps hk5 (fun g hg hr => by
        rcases HB4.out g hg with h1 | h1
        · exact HDJ.out g h1 hr
        · have := hlt4 g hr; omega)
      have ho4' : OwnB w5 v4 zb := HO4.out.keeps hk5 (fun g hg hr => by have := HF4.out g hg; have := hlt4 g hr; omega)
      have hb5 : Below w.heap.size w w5 := HBW4.out.trans (hk5.below HBW4.out.size (fun g hg => HBR.out g hg))
      have hA5 : PlayAt w w5 p q s4 r5 := ⟨hD5, hR5, by rw [HA4.out]; exact HGD.out, by rw [HA4.out, hra5]; exact HSM.out,
        fun g hg => by
          rcases HB4.out g hg with h1 | h1
          · exact HBS.out g h1
          · omega,
        fun g hg => by
          rcases hB5 g hg with h1 | h1
          · exact HBR.out g h1
          · omega,
        fun g h1 h2 => by
          rcases hB5 g h2 with h3 | h3
          · rcases HB4.out g h1 with h4 | h4
            · exact HDJ.out g h4 h3
            · have := hlt4 g h3; omega
          · have := HD4.out.lt g h1; omega,
        hb5⟩
      obtain ⟨a4, g4, o4, c4, rfl, _, hr4, _⟩ := ho4'.rd
      obtain ⟨a5, g5, o5, c5, rfl, _, hr5, _⟩ := ho5.rd
      have hSM := RefSame_any w5 a4 g4 o4 c4 zb a5 g5 o5 c5 zb hr4 hr5 (by omega) (by omega)
      rw [decide_eq_true rfl] at hSM
      have HSAME := hid hSM
      have HA5 := hid hA5
      have hne : (zi != zi) = false := by simp
      clear ho5 hf5 hR5 hra5 hB5 hk5 hD5 ho4' hb5 hA5 hr4 hr5 hSM e0 e1 e2 e3 e4 e5 hzl hlt4
      generalize zb.length = zl at *
      go_wp2_with fail
      refine HSAME.out.mono ?_
      rintro e w6 ⟨rfl, hE6⟩
      have hA6 := HA5.out.below hE6.below
      have HA6 := hid hA6
      clear hE6 hA6
      go_wp2_with fail
      refine (shows_any w6 p s4 q r5 HA6.out.dk HA6.out.good HA6.out.rk HA6.out.sim).mono ?_
      rintro e w7 ⟨rfl, hb7⟩
      have HA7 := hid (HA6.out.below hb7)
      clear hb7
      go_wp2_with fail
      go_roundw
      case rel => exact ⟨k + 1, s4, r5, by omega, by go_num, HA7.out⟩
      case measure => simp [intOf]; omega
    · have HBB := hid hAt.bel
      clear hAt h hO hsm
      go_wp2_with fail
      refine (DiskAwake _).mono ?_
      rintro e w9 ⟨rfl, hb9⟩
      have HF := hid (HBB.out.trans (hb9.mono HBB.out.size))
      clear hb9
      go_wp2
      go_ret
      exact ⟨rfl, HF.out⟩
theorem DiskPlays_any (w : World) (room : Int) (a : Option Addr) (g off cap : Nat) (l : List DAct) (h : RdS encD 6 w a g off l) (hO : ∀ x ∈ l, OkD w x) (hl : l.length ≤ cap) (hcm : cap ≤ maxLen) :
    Calls Try.prog 7 #[.int .i64 room, .slice a l.length cap] w fun e w' => e = .returned (.bool true) ∧ Below w.heap.size w w' := by
  cases hg : greatD l with
  | true => exact DP_great w room a g off cap l h hl hcm (Or.inl hg)
  | false =>
    by_cases hr : 1073741824 < room
    · exact DP_great w room a g off cap l h hl hcm (Or.inr hr)
    · exact DP_small w room a g off cap l h hO hl hcm hg (by omega)
end Go.Proofs.Ytopabknlgmihpaa
