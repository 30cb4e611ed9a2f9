/- The document's disk: Append, Move. -/
import Derived.Test.YtopabknlgmihpaaRef12H
namespace Go.Proofs.Ytopabknlgmihpaa
open Go Go.RowKit Go.MapKept Go.ChangeMaps Go.Maps

theorem totD_out (l : List RF) : totD (l.map RF.out) = totR l := by
  unfold totD totR
  rw [List.map_map]
  rfl
theorem deedR_room (s : RkS) : s.deed.room = s.room := by unfold RkS.deed; split <;> rfl
theorem i64_small {x : Int} (h1 : -9223372036854775808 ≤ x) (h2 : x ≤ 9223372036854775807) : IntKind.i64.wrap x = x := IntWalk.i64_in _ (by omega)
theorem dropR_out (l : List RF) (n : SKey) : (dropR l n).map RF.out = adel (l.map RF.out) n := by
  unfold dropR adel
  rw [List.filter_map]
  rfl
/-- Another list, by put or drop. -/
theorem RkPost.to {w w1 w' : World} {q : Nat} {s d : RkS} {l' : List RF} {E : Nat → Prop} {f : RD → RD × Int} {r : RD} (h : RkPost w1 q d l' E w')
    (HLS : ∀ (r : RD) (s' : RkS) w', f d.abs = (r, 0) → Rk w' q s' → s'.abs = r → (∀ g, s'.Blk q g → s.Blk q g ∨ w.heap.size ≤ g) → Keeps (s.Blk q) w w' → RPost w q s (deedD f s.abs) 0 w')
    (HBK : ∀ g, d.Blk q g ↔ s.Blk q g) (hk : Keeps (s.Blk q) w w1) (hE : ∀ g, E g → s.Blk q g ∨ w.heap.size ≤ g) (hf : f d.abs = (r, 0)) (hr : r = { d.abs with l := l'.map RF.out }) : RPost w q s (deedD f s.abs) 0 w' := by
  obtain ⟨v', h1, h2, h3⟩ := h
  refine HLS r _ w' hf h1 ?_ (fun g hg => ?_) (hk.trans h3 (fun g _ e => by subst e; exact Or.inl rfl))
  · rw [hr]; rfl
  · rcases h2 g hg with h4 | h4 | h4
    · exact Or.inl ((HBK g).1 h4)
    · exact Or.inr (Nat.le_trans hk.size h4)
    · exact hE g h4
set_option maxRecDepth 100000 in
set_option maxHeartbeats 3200000 in
theorem RefAppend12_any (w : World) (q : Nat) (s : RkS) (n : SKey) (aP : Option Addr) (gP oP cP : Nat) (P : List UInt8) (h : Rk w q s) (hl : s.l.length ≤ 1000) (hs : ∀ f ∈ s.l, f.S.length + f.T.length ≤ 1073741824) (hd : (s.l.map RF.out).Pairwise (fun x y => x.1 ≠ y.1)) (hb : -1 ≤ s.fuse) (hb2 : s.fuse ≤ 9223372036854775807) (hT : totR s.l ≤ 1073741824) (hrm : s.room ≤ 1073741824) (hP : RdS encB 1 w aP gP oP P) (hPl : P.length ≤ 1073741824) (hPb : P ≠ [] → ¬ s.Blk q gP) : Calls Try.prog 46 #[.pointer (some ⟨q, 0, none⟩), .string n.1, .slice aP P.length cP] w (IntR (RPost w q s (deedD (appendD n P) s.abs))) := by
  have HC := hid (RefDeed_any w q s h hb hb2)
  have hdl := deed_l s
  have HBK := hid (deed_blk s q)
  cases hdd : s.dead with
  | true =>
    have HR := hid (fun w' (hr : Rk w' q s.deed) (hk : Keeps (· = q) w w') => RPost.dead (f := appendD n P) hdd hr hk)
    rw [hdd] at HC
    clear hdd hdl hs hd hl h
    go_enter Try.func46, Try.ntmps46
    go_wp2_with fail
    refine HC.out.mono ?_
    rintro e w1 ⟨rfl, hr, hk⟩
    have HP := hid (HR.out w1 hr hk)
    clear hr hk
    go_wp2
    go_ret
    exact IntR.mk HP.out
  | false =>
    rw [hdd] at HC
    have HST := hid (fun (x : Int) (hf : (appendD n P) s.deed.abs = (s.deed.abs, x)) w' (hr : Rk w' q s.deed) (hk : Keeps (· = q) w w') => RPost.still (f := appendD n P) hdd hf hr hk)
    have HLS := hid (fun (r : RD) (s' : RkS) w' (hf : (appendD n P) s.deed.abs = (r, 0)) (hr : Rk w' q s') (ha : s'.abs = r) (hb : ∀ g, s'.Blk q g → s.Blk q g ∨ w.heap.size ≤ g) (hk : Keeps (s.Blk q) w w') => RPost.list (f := appendD n P) hdd hf hr ha hb hk)
    have hA := fun W (hW : Rk W q s.deed) => RefAt_any W q s.deed n hW (by rw [hdl]; exact hl)
    have HABS := hid (show s.deed.abs.l = s.deed.l.map RF.out from rfl)
    rw [← hdl] at hl hs hd
    rw [← hdl] at hT
    rw [← deedR_room s] at hrm
    obtain ⟨d, hde⟩ : ∃ d, d = s.deed := ⟨_, rfl⟩
    rw [← hde] at HC HST HLS hA hl hs hd HBK HABS hT hrm
    have HA := hid hA
    clear hdd hdl hA h hb hb2 hde
    have hTd := totD_out d.l
    have hwr : IntKind.i64.wrap ((totR d.l : Int) + (P.length : Int)) = (totR d.l : Int) + (P.length : Int) := i64_small (by omega) (by omega)
    cases hnm : nameB n.1 with
    | false =>
      have HN := hid (HST.out 1 (by unfold appendD; rw [if_pos hnm]))
      clear hs hd hTd hwr
      go_enter Try.func46, Try.ntmps46
      go_wp2_with fail
      refine HC.out.mono ?_
      rintro e w1 ⟨rfl, hr1, hk1⟩
      have HRk1 := hid hr1
      have HK1 := hid (hk1.mono (T := s.Blk q) (fun g _ e => Or.inl e))
      have HKQ1 := hid hk1
      clear hr1 hk1
      go_wp2_with fail
      refine (RefName_any w1 n.1 n.2).mono ?_
      rw [hnm]
      rintro e w2 ⟨rfl, hE2⟩
      have HRk2 := hid (HRk1.out.ext hE2)
      have HK2 := hid (HK1.out.trans hE2.keeps (fun _ _ e => e))
      have HKQ2 := hid (HKQ1.out.trans (hE2.keeps (S := (· = q))) (fun _ _ e => e))
      clear hE2
      have HP := hid (HN.out _ HRk2.out HKQ2.out)
      clear hnm
      go_wp2
      go_ret
      exact IntR.mk HP.out
    | true =>
      by_cases hfull : d.room < (totR d.l : Int) + (P.length : Int)
      · have HN := hid (HST.out 7 (by unfold appendD; rw [if_neg (by rw [hnm]; simp), HABS.out, hTd, show d.abs.room = d.room from rfl, if_pos hfull]))
        clear hs hd hTd
        go_enter Try.func46, Try.ntmps46
        go_wp2_with fail
        refine HC.out.mono ?_
        rintro e w1 ⟨rfl, hr1, hk1⟩
        have HRk1 := hid hr1
        have HK1 := hid (hk1.mono (T := s.Blk q) (fun g _ e => Or.inl e))
        have HKQ1 := hid hk1
        clear hr1 hk1
        go_wp2_with fail
        refine (RefName_any w1 n.1 n.2).mono ?_
        rw [hnm]
        rintro e w2 ⟨rfl, hE2⟩
        have HRk2 := hid (HRk1.out.ext hE2)
        have HK2 := hid (HK1.out.trans hE2.keeps (fun _ _ e => e))
        have HKQ2 := hid (HKQ1.out.trans (hE2.keeps (S := (· = q))) (fun _ _ e => e))
        clear hE2
        clear hnm
        go_wp2_with fail
        have HEQ := hid (fun W (hW : Below w2.heap.size w2 W) => (HRk2.out.below hW).cells)
        refine wp_region_C (fun W => Below w2.heap.size w2 W) (by kernel_rfl) ?_
        have hC0 : (fun W => Below w2.heap.size w2 W) w2.drew := ((Ext.refl w2).drew).below
        refine takeC (i := 0) (v := ?_) rfl (by kernel_rfl) (by kernel_rfl) (by kernel_rfl) (fun _ _ _ h => h) (by assumption) (Or.inl ⟨?_, ?_⟩) (fun K hK => ?_)
        rotate_left
        · rfl
        · (intro W hW; (obtain ⟨_, c1, _, _⟩ := HEQ.out W hW); go_simp; first | done | with_reducible rfl)
        (try go_simp)
        refine hK _ _ ?_
        clear hK K
        refine takeC (i := 2) (v := ?_) rfl (by kernel_rfl) (by kernel_rfl) (by kernel_rfl) (fun _ _ _ h => h) (by assumption) (Or.inl ⟨?_, ?_⟩) (fun K hK => ?_)
        rotate_left
        · rfl
        · (intro W hW; (obtain ⟨_, c1, _, _⟩ := HEQ.out W hW); go_simp; first | done | with_reducible rfl)
        (try go_simp)
        refine hK _ _ ?_
        clear hK K
        refine takeC (i := 3) (v := ?_) rfl (by kernel_rfl) (by kernel_rfl) (by kernel_rfl) (fun _ _ _ h => h) (by assumption) (Or.inl ⟨?_, ?_⟩) (fun K hK => ?_)
        rotate_left
        · rfl
        · (intro W hW; (obtain ⟨_, c1, _, _⟩ := HEQ.out W hW); go_simp; first | done | with_reducible rfl)
        (try go_simp)
        refine hK _ _ ?_
        clear hK K
        refine takeC (i := 5) (v := ?_) rfl (by kernel_rfl) (by kernel_rfl) (by kernel_rfl) (fun _ _ _ h => h) (by assumption) (Or.inl ⟨?_, ?_⟩) (fun K hK => ?_)
        rotate_left
        · rfl
        · (intro W hW; (obtain ⟨_, c1, _, _⟩ := HEQ.out W hW); go_simp; first | done | with_reducible rfl)
        (try go_simp)
        refine hK _ _ ?_
        clear hK K
        refine takeC (i := 6) (v := ?_) rfl (by kernel_rfl) (by kernel_rfl) (by kernel_rfl) (fun _ _ _ h => h) (by assumption) (Or.inl ⟨?_, ?_⟩) (fun K hK => ?_)
        rotate_left
        · rfl
        · (intro W hW; (obtain ⟨_, c1, _, _⟩ := HEQ.out W hW); go_simp; first | done | with_reducible rfl)
        (try go_simp)
        refine hK _ _ ?_
        clear hK K
        refine takeC (i := 7) (v := ?_) rfl (by kernel_rfl) (by kernel_rfl) (by kernel_rfl) (fun _ _ _ h => h) (by assumption) (Or.inl ⟨?_, ?_⟩) (fun K hK => ?_)
        rotate_left
        · rfl
        · (intro W hW; (obtain ⟨_, c1, _, _⟩ := HEQ.out W hW); go_simp; first | done | with_reducible rfl)
        (try go_simp)
        refine hK _ _ ?_
        clear hK K
        refine takeC (i := 8) (v := ?_) rfl (by kernel_rfl) (by kernel_rfl) (by kernel_rfl) (fun _ _ _ h => h) (by assumption) (Or.inl ⟨?_, ?_⟩) (fun K hK => ?_)
        rotate_left
        · rfl
        · (intro W hW; (obtain ⟨_, c1, _, _⟩ := HEQ.out W hW); go_simp; first | done | with_reducible rfl)
        (try go_simp)
        refine hK _ _ ?_
        clear hK K
        refine callC (k := 1) (by kernel_rfl) rfl ?_ (fun K hK => ?_)
        · rfl
        go_simp
        refine (RefUsed_any _ q d (HRk2.out.below hC0) hl hT).mono ?_
        rintro e w3 ⟨rfl, hE3⟩
        have hC1 : (fun W => Below w2.heap.size w2 W) w3 := hC0.trans (hE3.below.mono (Nat.le_refl _))
        go_wp2
        refine hK _ _ hC1 ?_
        clear hK K
        refine takeC (i := 4) (v := ?_) rfl (by kernel_rfl) (by kernel_rfl) (by kernel_rfl) (fun _ _ _ h => h) (by assumption) (Or.inl ⟨?_, ?_⟩) (fun K hK => ?_)
        rotate_left
        · rfl
        · (intro W hW; (obtain ⟨_, c1, _, _⟩ := HEQ.out W hW); go_simp; first | done | with_reducible rfl)
        (try go_simp)
        refine hK _ _ ?_
        clear hK K
        refine takeC (i := 9) (v := ?_) rfl (by kernel_rfl) (by kernel_rfl) (by kernel_rfl) (fun _ _ _ h => h) (by assumption) (Or.inl ⟨?_, ?_⟩) (fun K hK => ?_)
        rotate_left
        · rfl
        · (intro W hW; (obtain ⟨_, c1, _, _⟩ := HEQ.out W hW); go_simp; first | done | with_reducible rfl)
        (try go_simp)
        refine hK _ _ ?_
        clear hK K
        refine doneC (by kernel_rfl) ?_
        have HRk3 := hid (HRk2.out.below hC1)
        have HK3 := hid (HK2.out.trans (below_keeps hC1) (fun _ _ e => e))
        have HKQ3 := hid (HKQ2.out.trans (below_keeps hC1) (fun _ _ e => e))
        clear hC0 hC1 hE3
        have HP := hid (HN.out _ HRk3.out HKQ3.out)
        clear HEQ
        go_wp2
        go_ret
        exact IntR.mk HP.out
      · rcases atR_is d.l n with hat | ⟨i, x, hk, hget, hnm2⟩
        · have hg0 := abs_noR hat
          by_cases h16 : 16 ≤ d.l.length
          · have HN := hid (HST.out 12 (by unfold appendD; rw [if_neg (by rw [hnm]; simp), HABS.out, hTd, show d.abs.room = d.room from rfl, if_neg hfull, hg0]; simp only; rw [if_pos (by simpa using h16)]))
            clear hs hd hTd hg0
            generalize atR d.l n = i at *
            go_enter Try.func46, Try.ntmps46
            go_wp2_with fail
            refine HC.out.mono ?_
            rintro e w1 ⟨rfl, hr1, hk1⟩
            have HRk1 := hid hr1
            have HK1 := hid (hk1.mono (T := s.Blk q) (fun g _ e => Or.inl e))
            have HKQ1 := hid hk1
            clear hr1 hk1
            go_wp2_with fail
            refine (RefName_any w1 n.1 n.2).mono ?_
            rw [hnm]
            rintro e w2 ⟨rfl, hE2⟩
            have HRk2 := hid (HRk1.out.ext hE2)
            have HK2 := hid (HK1.out.trans hE2.keeps (fun _ _ e => e))
            have HKQ2 := hid (HKQ1.out.trans (hE2.keeps (S := (· = q))) (fun _ _ e => e))
            clear hE2
            clear hnm
            go_wp2_with fail
            have HEQ := hid (fun W (hW : Below w2.heap.size w2 W) => (HRk2.out.below hW).cells)
            refine wp_region_C (fun W => Below w2.heap.size w2 W) (by kernel_rfl) ?_
            have hC0 : (fun W => Below w2.heap.size w2 W) w2.drew := ((Ext.refl w2).drew).below
            refine takeC (i := 0) (v := ?_) rfl (by kernel_rfl) (by kernel_rfl) (by kernel_rfl) (fun _ _ _ h => h) (by assumption) (Or.inl ⟨?_, ?_⟩) (fun K hK => ?_)
            rotate_left
            · rfl
            · (intro W hW; (obtain ⟨_, c1, _, _⟩ := HEQ.out W hW); go_simp; first | done | with_reducible rfl)
            (try go_simp)
            refine hK _ _ ?_
            clear hK K
            refine takeC (i := 2) (v := ?_) rfl (by kernel_rfl) (by kernel_rfl) (by kernel_rfl) (fun _ _ _ h => h) (by assumption) (Or.inl ⟨?_, ?_⟩) (fun K hK => ?_)
            rotate_left
            · rfl
            · (intro W hW; (obtain ⟨_, c1, _, _⟩ := HEQ.out W hW); go_simp; first | done | with_reducible rfl)
            (try go_simp)
            refine hK _ _ ?_
            clear hK K
            refine takeC (i := 3) (v := ?_) rfl (by kernel_rfl) (by kernel_rfl) (by kernel_rfl) (fun _ _ _ h => h) (by assumption) (Or.inl ⟨?_, ?_⟩) (fun K hK => ?_)
            rotate_left
            · rfl
            · (intro W hW; (obtain ⟨_, c1, _, _⟩ := HEQ.out W hW); go_simp; first | done | with_reducible rfl)
            (try go_simp)
            refine hK _ _ ?_
            clear hK K
            refine takeC (i := 5) (v := ?_) rfl (by kernel_rfl) (by kernel_rfl) (by kernel_rfl) (fun _ _ _ h => h) (by assumption) (Or.inl ⟨?_, ?_⟩) (fun K hK => ?_)
            rotate_left
            · rfl
            · (intro W hW; (obtain ⟨_, c1, _, _⟩ := HEQ.out W hW); go_simp; first | done | with_reducible rfl)
            (try go_simp)
            refine hK _ _ ?_
            clear hK K
            refine takeC (i := 6) (v := ?_) rfl (by kernel_rfl) (by kernel_rfl) (by kernel_rfl) (fun _ _ _ h => h) (by assumption) (Or.inl ⟨?_, ?_⟩) (fun K hK => ?_)
            rotate_left
            · rfl
            · (intro W hW; (obtain ⟨_, c1, _, _⟩ := HEQ.out W hW); go_simp; first | done | with_reducible rfl)
            (try go_simp)
            refine hK _ _ ?_
            clear hK K
            refine takeC (i := 7) (v := ?_) rfl (by kernel_rfl) (by kernel_rfl) (by kernel_rfl) (fun _ _ _ h => h) (by assumption) (Or.inl ⟨?_, ?_⟩) (fun K hK => ?_)
            rotate_left
            · rfl
            · (intro W hW; (obtain ⟨_, c1, _, _⟩ := HEQ.out W hW); go_simp; first | done | with_reducible rfl)
            (try go_simp)
            refine hK _ _ ?_
            clear hK K
            refine takeC (i := 8) (v := ?_) rfl (by kernel_rfl) (by kernel_rfl) (by kernel_rfl) (fun _ _ _ h => h) (by assumption) (Or.inl ⟨?_, ?_⟩) (fun K hK => ?_)
            rotate_left
            · rfl
            · (intro W hW; (obtain ⟨_, c1, _, _⟩ := HEQ.out W hW); go_simp; first | done | with_reducible rfl)
            (try go_simp)
            refine hK _ _ ?_
            clear hK K
            refine callC (k := 1) (by kernel_rfl) rfl ?_ (fun K hK => ?_)
            · rfl
            go_simp
            refine (RefUsed_any _ q d (HRk2.out.below hC0) hl hT).mono ?_
            rintro e w3 ⟨rfl, hE3⟩
            have hC1 : (fun W => Below w2.heap.size w2 W) w3 := hC0.trans (hE3.below.mono (Nat.le_refl _))
            go_wp2
            refine hK _ _ hC1 ?_
            clear hK K
            refine takeC (i := 4) (v := ?_) rfl (by kernel_rfl) (by kernel_rfl) (by kernel_rfl) (fun _ _ _ h => h) (by assumption) (Or.inl ⟨?_, ?_⟩) (fun K hK => ?_)
            rotate_left
            · rfl
            · (intro W hW; (obtain ⟨_, c1, _, _⟩ := HEQ.out W hW); go_simp; first | done | with_reducible rfl)
            (try go_simp)
            refine hK _ _ ?_
            clear hK K
            refine takeC (i := 9) (v := ?_) rfl (by kernel_rfl) (by kernel_rfl) (by kernel_rfl) (fun _ _ _ h => h) (by assumption) (Or.inl ⟨?_, ?_⟩) (fun K hK => ?_)
            rotate_left
            · rfl
            · (intro W hW; (obtain ⟨_, c1, _, _⟩ := HEQ.out W hW); go_simp; first | done | with_reducible rfl)
            (try go_simp)
            refine hK _ _ ?_
            clear hK K
            refine doneC (by kernel_rfl) ?_
            have HRk3 := hid (HRk2.out.below hC1)
            have HK3 := hid (HK2.out.trans (below_keeps hC1) (fun _ _ e => e))
            have HKQ3 := hid (HKQ2.out.trans (below_keeps hC1) (fun _ _ e => e))
            clear hC0 hC1 hE3
            go_wp2_with fail
            refine (HA.out _ HRk3.out).mono ?_
            rintro e w4 ⟨rfl, hE4⟩
            have HRk4 := hid (HRk3.out.ext hE4)
            have HK4 := hid (HK3.out.trans hE4.keeps (fun _ _ e => e))
            have HKQ4 := hid (HKQ3.out.trans (hE4.keeps (S := (· = q))) (fun _ _ e => e))
            clear hE4
            obtain ⟨c0, c1, _, _⟩ := HRk4.out.cells
            obtain ⟨aL, gL, oL, cL, hv, hcL, hrr, _⟩ := HRk4.out.own.rd encF_len
            rw [hv] at c0
            have HP := hid (HN.out _ HRk4.out HKQ4.out)
            have h16' : (16 : Int) ≤ (d.l.length : Int) := by omega
            clear hv hrr HEQ
            go_wp2
            go_ret
            exact IntR.mk HP.out
          · have HN := hid (show appendD n P d.abs = ({ d.abs with l := addG ltA d.abs.l (n, [], P) }, 0) by unfold appendD; rw [if_neg (by rw [hnm]; simp), HABS.out, hTd, show d.abs.room = d.room from rfl, if_neg hfull, hg0]; simp only; rw [if_neg (by simpa using h16)]; rfl)
            clear hs hd hTd hg0
            generalize atR d.l n = i at *
            go_enter Try.func46, Try.ntmps46
            go_wp2_with fail
            refine HC.out.mono ?_
            rintro e w1 ⟨rfl, hr1, hk1⟩
            have HRk1 := hid hr1
            have HK1 := hid (hk1.mono (T := s.Blk q) (fun g _ e => Or.inl e))
            have HKQ1 := hid hk1
            clear hr1 hk1
            go_wp2_with fail
            refine (RefName_any w1 n.1 n.2).mono ?_
            rw [hnm]
            rintro e w2 ⟨rfl, hE2⟩
            have HRk2 := hid (HRk1.out.ext hE2)
            have HK2 := hid (HK1.out.trans hE2.keeps (fun _ _ e => e))
            have HKQ2 := hid (HKQ1.out.trans (hE2.keeps (S := (· = q))) (fun _ _ e => e))
            clear hE2
            clear hnm
            go_wp2_with fail
            have HEQ := hid (fun W (hW : Below w2.heap.size w2 W) => (HRk2.out.below hW).cells)
            refine wp_region_C (fun W => Below w2.heap.size w2 W) (by kernel_rfl) ?_
            have hC0 : (fun W => Below w2.heap.size w2 W) w2.drew := ((Ext.refl w2).drew).below
            refine takeC (i := 0) (v := ?_) rfl (by kernel_rfl) (by kernel_rfl) (by kernel_rfl) (fun _ _ _ h => h) (by assumption) (Or.inl ⟨?_, ?_⟩) (fun K hK => ?_)
            rotate_left
            · rfl
            · (intro W hW; (obtain ⟨_, c1, _, _⟩ := HEQ.out W hW); go_simp; first | done | with_reducible rfl)
            (try go_simp)
            refine hK _ _ ?_
            clear hK K
            refine takeC (i := 2) (v := ?_) rfl (by kernel_rfl) (by kernel_rfl) (by kernel_rfl) (fun _ _ _ h => h) (by assumption) (Or.inl ⟨?_, ?_⟩) (fun K hK => ?_)
            rotate_left
            · rfl
            · (intro W hW; (obtain ⟨_, c1, _, _⟩ := HEQ.out W hW); go_simp; first | done | with_reducible rfl)
            (try go_simp)
            refine hK _ _ ?_
            clear hK K
            refine takeC (i := 3) (v := ?_) rfl (by kernel_rfl) (by kernel_rfl) (by kernel_rfl) (fun _ _ _ h => h) (by assumption) (Or.inl ⟨?_, ?_⟩) (fun K hK => ?_)
            rotate_left
            · rfl
            · (intro W hW; (obtain ⟨_, c1, _, _⟩ := HEQ.out W hW); go_simp; first | done | with_reducible rfl)
            (try go_simp)
            refine hK _ _ ?_
            clear hK K
            refine takeC (i := 5) (v := ?_) rfl (by kernel_rfl) (by kernel_rfl) (by kernel_rfl) (fun _ _ _ h => h) (by assumption) (Or.inl ⟨?_, ?_⟩) (fun K hK => ?_)
            rotate_left
            · rfl
            · (intro W hW; (obtain ⟨_, c1, _, _⟩ := HEQ.out W hW); go_simp; first | done | with_reducible rfl)
            (try go_simp)
            refine hK _ _ ?_
            clear hK K
            refine takeC (i := 6) (v := ?_) rfl (by kernel_rfl) (by kernel_rfl) (by kernel_rfl) (fun _ _ _ h => h) (by assumption) (Or.inl ⟨?_, ?_⟩) (fun K hK => ?_)
            rotate_left
            · rfl
            · (intro W hW; (obtain ⟨_, c1, _, _⟩ := HEQ.out W hW); go_simp; first | done | with_reducible rfl)
            (try go_simp)
            refine hK _ _ ?_
            clear hK K
            refine takeC (i := 7) (v := ?_) rfl (by kernel_rfl) (by kernel_rfl) (by kernel_rfl) (fun _ _ _ h => h) (by assumption) (Or.inl ⟨?_, ?_⟩) (fun K hK => ?_)
            rotate_left
            · rfl
            · (intro W hW; (obtain ⟨_, c1, _, _⟩ := HEQ.out W hW); go_simp; first | done | with_reducible rfl)
            (try go_simp)
            refine hK _ _ ?_
            clear hK K
            refine takeC (i := 8) (v := ?_) rfl (by kernel_rfl) (by kernel_rfl) (by kernel_rfl) (fun _ _ _ h => h) (by assumption) (Or.inl ⟨?_, ?_⟩) (fun K hK => ?_)
            rotate_left
            · rfl
            · (intro W hW; (obtain ⟨_, c1, _, _⟩ := HEQ.out W hW); go_simp; first | done | with_reducible rfl)
            (try go_simp)
            refine hK _ _ ?_
            clear hK K
            refine callC (k := 1) (by kernel_rfl) rfl ?_ (fun K hK => ?_)
            · rfl
            go_simp
            refine (RefUsed_any _ q d (HRk2.out.below hC0) hl hT).mono ?_
            rintro e w3 ⟨rfl, hE3⟩
            have hC1 : (fun W => Below w2.heap.size w2 W) w3 := hC0.trans (hE3.below.mono (Nat.le_refl _))
            go_wp2
            refine hK _ _ hC1 ?_
            clear hK K
            refine takeC (i := 4) (v := ?_) rfl (by kernel_rfl) (by kernel_rfl) (by kernel_rfl) (fun _ _ _ h => h) (by assumption) (Or.inl ⟨?_, ?_⟩) (fun K hK => ?_)
            rotate_left
            · rfl
            · (intro W hW; (obtain ⟨_, c1, _, _⟩ := HEQ.out W hW); go_simp; first | done | with_reducible rfl)
            (try go_simp)
            refine hK _ _ ?_
            clear hK K
            refine takeC (i := 9) (v := ?_) rfl (by kernel_rfl) (by kernel_rfl) (by kernel_rfl) (fun _ _ _ h => h) (by assumption) (Or.inl ⟨?_, ?_⟩) (fun K hK => ?_)
            rotate_left
            · rfl
            · (intro W hW; (obtain ⟨_, c1, _, _⟩ := HEQ.out W hW); go_simp; first | done | with_reducible rfl)
            (try go_simp)
            refine hK _ _ ?_
            clear hK K
            refine doneC (by kernel_rfl) ?_
            have HRk3 := hid (HRk2.out.below hC1)
            have HK3 := hid (HK2.out.trans (below_keeps hC1) (fun _ _ e => e))
            have HKQ3 := hid (HKQ2.out.trans (below_keeps hC1) (fun _ _ e => e))
            clear hC0 hC1 hE3
            go_wp2_with fail
            refine (HA.out _ HRk3.out).mono ?_
            rintro e w4 ⟨rfl, hE4⟩
            have HRk4 := hid (HRk3.out.ext hE4)
            have HK4 := hid (HK3.out.trans hE4.keeps (fun _ _ e => e))
            have HKQ4 := hid (HKQ3.out.trans (hE4.keeps (S := (· = q))) (fun _ _ e => e))
            clear hE4
            obtain ⟨c0, c1, _, _⟩ := HRk4.out.cells
            obtain ⟨aL, gL, oL, cL, hv, hcL, hrr, _⟩ := HRk4.out.own.rd encF_len
            rw [hv] at c0
            have h16' : ¬ (16 : Int) ≤ (d.l.length : Int) := by omega
            have hl16 : d.l.length ≤ 1000 := by omega
            have hE5 : Ext w4 (w4.alloc (.cells #[] 5)) := (Ext.refl w4).alloc _
            have hown0 : OwnB (w4.alloc (.cells #[] 5)) (.slice (some ⟨w4.heap.size, 0, none⟩) 0 0) [] :=
              Or.inr ⟨w4.heap.size, 0, #[], rfl, heap_alloc_new w4 _, Nat.le_refl _, by unfold maxLen; omega, Nat.le_refl _, rfl⟩
            have hsP := Src.ofRd (cap := cP) ((hP.keeps HK4.out hPb).below hE5.below)
            have HRk5 := hid (HRk4.out.ext hE5)
            have HK5 := hid (HK4.out.trans hE5.keeps (fun _ _ e => e))
            have HSP := hid hsP
            have HOW := hid hown0
            clear hv hrr HEQ hsP hown0 hE5
            go_wp2_with (at_builtin; go_must (refine wpList_append_B rfl _ _ rfl _ [] P rfl HOW.out _ rfl HSP.out (by simp; omega) ?_))
            intro v6 w6 hown6 hg6 hat6
            have hf6 : ∀ g, v6.ownBlock = some g → w4.heap.size ≤ g := fun g hg => by
              rcases hat6 with h | h
              · rw [h] at hg; cases hg; exact Nat.le_refl _
              · rw [h] at hg; simp at hg; omega
            have hb6 : Below w4.heap.size w4 w6 := (((Ext.refl w4).alloc _).below).grown hg6 (by simp) (fun g hg => by cases hg; exact Nat.le_refl _)
            obtain ⟨aV, gV, oV, cV, rfl, hcV, hrV, _⟩ := hown6.rd
            have HFV := hid (show P ≠ [] → w4.heap.size ≤ gV from fun hn => hf6 gV (by rw [hrV.some hn]; rfl))
            have HRk6 := hid (HRk4.out.below hb6)
            have HK6 := hid (HK4.out.trans (below_keeps hb6) (fun _ _ e => e))
            have hqlt := HRk4.out.lt q (Or.inl rfl)
            have hPUT := RefPut12_any w6 q d ⟨n, none, 0, 0, 0, [], aV, gV, oV, cV, P⟩ HRk6.out hl ⟨⟨fun h => absurd rfl h, fun h => absurd rfl h, RdAt.nil⟩, hrV, Nat.le_refl _, hcV⟩ (fun h => absurd rfl h) (fun hn => by have := HFV.out hn; simp only; omega)
            have HPUT := hid hPUT
            clear hPUT hown6 hg6 hat6 hf6 hb6 hrV
            go_wp2_with fail
            refine HPUT.out.mono ?_
            rintro e w7 ⟨rfl, hp7⟩
            have HP := hid (hp7.to HLS.out HBK.out HK6.out (fun g hg => by
              rcases hg with ⟨h0, _⟩ | ⟨h0, rfl⟩
              · exact absurd rfl h0
              · exact Or.inr (Nat.le_trans HK4.out.size (HFV.out h0))) HN.out (by
              rw [HABS.out]
              congr 1
              exact addG_map (f := RF.out) (fun t x => ltR_eq t x) ⟨n, none, 0, 0, 0, [], aV, gV, oV, cV, P⟩ d.l))
            clear hp7
            go_wp2
            go_ret
            exact IntR.mk HP.out
        · have hab := fun z (y : RF) (hy : y.out = (n, z)) => abs_atR hd hget hnm2 z hy
          have HAB := hid hab
          have HN := hid (show appendD n P d.abs = ({ d.abs with l := aput d.abs.l n (x.S, x.T ++ P) }, 0) by unfold appendD; rw [if_neg (by rw [hnm]; simp), HABS.out, hTd, show d.abs.room = d.room from rfl, if_neg hfull, (hab (x.S, x.T) x (by unfold RF.out; rw [hnm2])).1]; rfl)
          have hmem := List.mem_of_getElem? hget
          have hkn : ¬ (i : Int) < 0 := by omega
          have hsx := hs x hmem
          have HGET := hid hget
          have HNM := hid hnm2
          rw [hk] at HA
          have HMEM := hid hmem
          clear hk hget hnm2 hmem hs hd hTd hab
          go_enter Try.func46, Try.ntmps46
          go_wp2_with fail
          refine HC.out.mono ?_
          rintro e w1 ⟨rfl, hr1, hk1⟩
          have HRk1 := hid hr1
          have HK1 := hid (hk1.mono (T := s.Blk q) (fun g _ e => Or.inl e))
          have HKQ1 := hid hk1
          clear hr1 hk1
          go_wp2_with fail
          refine (RefName_any w1 n.1 n.2).mono ?_
          rw [hnm]
          rintro e w2 ⟨rfl, hE2⟩
          have HRk2 := hid (HRk1.out.ext hE2)
          have HK2 := hid (HK1.out.trans hE2.keeps (fun _ _ e => e))
          have HKQ2 := hid (HKQ1.out.trans (hE2.keeps (S := (· = q))) (fun _ _ e => e))
          clear hE2
          clear hnm
          go_wp2_with fail
          have HEQ := hid (fun W (hW : Below w2.heap.size w2 W) => (HRk2.out.below hW).cells)
          refine wp_region_C (fun W => Below w2.heap.size w2 W) (by kernel_rfl) ?_
          have hC0 : (fun W => Below w2.heap.size w2 W) w2.drew := ((Ext.refl w2).drew).below
          refine takeC (i := 0) (v := ?_) rfl (by kernel_rfl) (by kernel_rfl) (by kernel_rfl) (fun _ _ _ h => h) (by assumption) (Or.inl ⟨?_, ?_⟩) (fun K hK => ?_)
          rotate_left
          · rfl
          · (intro W hW; (obtain ⟨_, c1, _, _⟩ := HEQ.out W hW); go_simp; first | done | with_reducible rfl)
          (try go_simp)
          refine hK _ _ ?_
          clear hK K
          refine takeC (i := 2) (v := ?_) rfl (by kernel_rfl) (by kernel_rfl) (by kernel_rfl) (fun _ _ _ h => h) (by assumption) (Or.inl ⟨?_, ?_⟩) (fun K hK => ?_)
          rotate_left
          · rfl
          · (intro W hW; (obtain ⟨_, c1, _, _⟩ := HEQ.out W hW); go_simp; first | done | with_reducible rfl)
          (try go_simp)
          refine hK _ _ ?_
          clear hK K
          refine takeC (i := 3) (v := ?_) rfl (by kernel_rfl) (by kernel_rfl) (by kernel_rfl) (fun _ _ _ h => h) (by assumption) (Or.inl ⟨?_, ?_⟩) (fun K hK => ?_)
          rotate_left
          · rfl
          · (intro W hW; (obtain ⟨_, c1, _, _⟩ := HEQ.out W hW); go_simp; first | done | with_reducible rfl)
          (try go_simp)
          refine hK _ _ ?_
          clear hK K
          refine takeC (i := 5) (v := ?_) rfl (by kernel_rfl) (by kernel_rfl) (by kernel_rfl) (fun _ _ _ h => h) (by assumption) (Or.inl ⟨?_, ?_⟩) (fun K hK => ?_)
          rotate_left
          · rfl
          · (intro W hW; (obtain ⟨_, c1, _, _⟩ := HEQ.out W hW); go_simp; first | done | with_reducible rfl)
          (try go_simp)
          refine hK _ _ ?_
          clear hK K
          refine takeC (i := 6) (v := ?_) rfl (by kernel_rfl) (by kernel_rfl) (by kernel_rfl) (fun _ _ _ h => h) (by assumption) (Or.inl ⟨?_, ?_⟩) (fun K hK => ?_)
          rotate_left
          · rfl
          · (intro W hW; (obtain ⟨_, c1, _, _⟩ := HEQ.out W hW); go_simp; first | done | with_reducible rfl)
          (try go_simp)
          refine hK _ _ ?_
          clear hK K
          refine takeC (i := 7) (v := ?_) rfl (by kernel_rfl) (by kernel_rfl) (by kernel_rfl) (fun _ _ _ h => h) (by assumption) (Or.inl ⟨?_, ?_⟩) (fun K hK => ?_)
          rotate_left
          · rfl
          · (intro W hW; (obtain ⟨_, c1, _, _⟩ := HEQ.out W hW); go_simp; first | done | with_reducible rfl)
          (try go_simp)
          refine hK _ _ ?_
          clear hK K
          refine takeC (i := 8) (v := ?_) rfl (by kernel_rfl) (by kernel_rfl) (by kernel_rfl) (fun _ _ _ h => h) (by assumption) (Or.inl ⟨?_, ?_⟩) (fun K hK => ?_)
          rotate_left
          · rfl
          · (intro W hW; (obtain ⟨_, c1, _, _⟩ := HEQ.out W hW); go_simp; first | done | with_reducible rfl)
          (try go_simp)
          refine hK _ _ ?_
          clear hK K
          refine callC (k := 1) (by kernel_rfl) rfl ?_ (fun K hK => ?_)
          · rfl
          go_simp
          refine (RefUsed_any _ q d (HRk2.out.below hC0) hl hT).mono ?_
          rintro e w3 ⟨rfl, hE3⟩
          have hC1 : (fun W => Below w2.heap.size w2 W) w3 := hC0.trans (hE3.below.mono (Nat.le_refl _))
          go_wp2
          refine hK _ _ hC1 ?_
          clear hK K
          refine takeC (i := 4) (v := ?_) rfl (by kernel_rfl) (by kernel_rfl) (by kernel_rfl) (fun _ _ _ h => h) (by assumption) (Or.inl ⟨?_, ?_⟩) (fun K hK => ?_)
          rotate_left
          · rfl
          · (intro W hW; (obtain ⟨_, c1, _, _⟩ := HEQ.out W hW); go_simp; first | done | with_reducible rfl)
          (try go_simp)
          refine hK _ _ ?_
          clear hK K
          refine takeC (i := 9) (v := ?_) rfl (by kernel_rfl) (by kernel_rfl) (by kernel_rfl) (fun _ _ _ h => h) (by assumption) (Or.inl ⟨?_, ?_⟩) (fun K hK => ?_)
          rotate_left
          · rfl
          · (intro W hW; (obtain ⟨_, c1, _, _⟩ := HEQ.out W hW); go_simp; first | done | with_reducible rfl)
          (try go_simp)
          refine hK _ _ ?_
          clear hK K
          refine doneC (by kernel_rfl) ?_
          have HRk3 := hid (HRk2.out.below hC1)
          have HK3 := hid (HK2.out.trans (below_keeps hC1) (fun _ _ e => e))
          have HKQ3 := hid (HKQ2.out.trans (below_keeps hC1) (fun _ _ e => e))
          clear hC0 hC1 hE3
          go_wp2_with fail
          refine (HA.out _ HRk3.out).mono ?_
          rintro e w4 ⟨rfl, hE4⟩
          have HRk4 := hid (HRk3.out.ext hE4)
          have HK4 := hid (HK3.out.trans hE4.keeps (fun _ _ e => e))
          have HKQ4 := hid (HKQ3.out.trans (hE4.keeps (S := (· = q))) (fun _ _ e => e))
          clear hE4
          obtain ⟨gL, cL, hv, hx, hgq, hglt⟩ := HRk4.out.view HGET.out
          have HV := hid hv
          have HEC := hid (fun W (hW : Below w4.heap.size w4 W) => (HRk4.out.below hW).elemC HGET.out HV.out)
          have HPW := hid (fun W (hW : Below w4.heap.size w4 W) => (hP.keeps HK4.out hPb).below hW)
          have HTW := hid (fun W (hW : Below w4.heap.size w4 W) => ((HRk4.out.ok x HMEM.out).below hW).t)
          have hqlt := HRk4.out.lt q (Or.inl rfl)
          obtain ⟨d0, f0, f1, f2, z1, z2⟩ := HEC.out w4 (Below.refl _ _)
          clear hv hP HEQ
          generalize d.l.length = nl at *
          go_wp2_with fail
          refine wp_region_T (fun W => Below w4.heap.size w4 W) 19 (by kernel_rfl) ?_
          have hC0 : (fun W => Below w4.heap.size w4 W) w4.drew := ((Ext.refl w4).drew).below
          have hC1 : (fun W => Below w4.heap.size w4 W) (w4.drew.alloc (.cells #[] 5)) := hC0.trans (((Ext.refl w4.drew).alloc _).below.mono (by simp))
          clear d0 f0 f1 f2 z1 z2
          refine takeT (i := 0) (v := ?_) rfl (by kernel_rfl) (by kernel_rfl) (by kernel_rfl) (by kernel_rfl) (fun _ _ _ h => h) (by assumption) (Or.inl ⟨?_, ?_⟩) (fun K hK => ?_)
          rotate_left
          · rfl
          · (intro W hW; (obtain ⟨d0, f0, f1, f2, _, _⟩ := HEC.out W hW); go_simp; first | done | with_reducible rfl)
          (try go_simp)
          refine hK _ _ ?_
          clear hK K
          refine takeT (i := 1) (v := ?_) rfl (by kernel_rfl) (by kernel_rfl) (by kernel_rfl) (by kernel_rfl) (fun _ _ _ h => h) (by assumption) (Or.inl ⟨?_, ?_⟩) (fun K hK => ?_)
          rotate_left
          · rfl
          · (intro W hW; (obtain ⟨d0, f0, f1, f2, _, _⟩ := HEC.out W hW); go_simp; first | done | with_reducible rfl)
          (try go_simp)
          refine hK _ _ ?_
          clear hK K
          refine takeT (i := 2) (v := ?_) rfl (by kernel_rfl) (by kernel_rfl) (by kernel_rfl) (by kernel_rfl) (fun _ _ _ h => h) (by assumption) (Or.inl ⟨?_, ?_⟩) (fun K hK => ?_)
          rotate_left
          · rfl
          · (intro W hW; (obtain ⟨d0, f0, f1, f2, _, _⟩ := HEC.out W hW); go_simp; first | done | with_reducible rfl)
          (try go_simp)
          refine hK _ _ ?_
          clear hK K
          refine takeT (i := 3) (v := ?_) rfl (by kernel_rfl) (by kernel_rfl) (by kernel_rfl) (by kernel_rfl) (fun _ _ _ h => h) (by assumption) (Or.inl ⟨?_, ?_⟩) (fun K hK => ?_)
          rotate_left
          · rfl
          · (intro W hW; (obtain ⟨d0, f0, f1, f2, _, _⟩ := HEC.out W hW); go_simp; first | done | with_reducible rfl)
          (try go_simp)
          refine hK _ _ ?_
          clear hK K
          refine takeT (i := 4) (v := ?_) rfl (by kernel_rfl) (by kernel_rfl) (by kernel_rfl) (by kernel_rfl) (fun _ _ _ h => h) (by assumption) (Or.inl ⟨?_, ?_⟩) (fun K hK => ?_)
          rotate_left
          · rfl
          · (intro W hW; (obtain ⟨d0, f0, f1, f2, _, _⟩ := HEC.out W hW); go_simp; first | done | with_reducible rfl)
          (try go_simp)
          refine hK _ _ ?_
          clear hK K
          refine takeT (i := 6) (v := ?_) rfl (by kernel_rfl) (by kernel_rfl) (by kernel_rfl) (by kernel_rfl) (fun _ _ _ h => h) (by assumption) (Or.inl ⟨?_, ?_⟩) (fun K hK => ?_)
          rotate_left
          · rfl
          · (intro W hW; (obtain ⟨d0, f0, f1, f2, _, _⟩ := HEC.out W hW); go_simp; first | done | with_reducible rfl)
          (try go_simp)
          refine hK _ _ ?_
          clear hK K
          refine takeT (i := 7) (v := ?_) rfl (by kernel_rfl) (by kernel_rfl) (by kernel_rfl) (by kernel_rfl) (fun _ _ _ h => h) (by assumption) (Or.inl ⟨?_, ?_⟩) (fun K hK => ?_)
          rotate_left
          · rfl
          · (intro W hW; (obtain ⟨d0, f0, f1, f2, _, _⟩ := HEC.out W hW); go_simp; first | done | with_reducible rfl)
          (try go_simp)
          refine hK _ _ ?_
          clear hK K
          refine takeT (i := 8) (v := ?_) rfl (by kernel_rfl) (by kernel_rfl) (by kernel_rfl) (by kernel_rfl) (fun _ _ _ h => h) (by assumption) (Or.inl ⟨?_, ?_⟩) (fun K hK => ?_)
          rotate_left
          · rfl
          · (intro W hW; (obtain ⟨d0, f0, f1, f2, _, _⟩ := HEC.out W hW); go_simp; first | done | with_reducible rfl)
          (try go_simp)
          refine hK _ _ ?_
          clear hK K
          refine takeT (i := 9) (v := ?_) rfl (by kernel_rfl) (by kernel_rfl) (by kernel_rfl) (by kernel_rfl) (fun _ _ _ h => h) (by assumption) (Or.inl ⟨?_, ?_⟩) (fun K hK => ?_)
          rotate_left
          · rfl
          · (intro W hW; (obtain ⟨d0, f0, f1, f2, _, _⟩ := HEC.out W hW); go_simp; first | done | with_reducible rfl)
          (try go_simp)
          refine hK _ _ ?_
          clear hK K
          refine takeT (i := 10) (v := ?_) rfl (by kernel_rfl) (by kernel_rfl) (by kernel_rfl) (by kernel_rfl) (fun _ _ _ h => h) (by assumption) (Or.inl ⟨?_, ?_⟩) (fun K hK => ?_)
          rotate_left
          · rfl
          · (intro W hW; (obtain ⟨d0, f0, f1, f2, _, _⟩ := HEC.out W hW); go_simp; first | done | with_reducible rfl)
          (try go_simp)
          refine hK _ _ ?_
          clear hK K
          refine takeT (i := 11) (v := ?_) rfl (by kernel_rfl) (by kernel_rfl) (by kernel_rfl) (by kernel_rfl) (fun _ _ _ h => h) (by assumption) (Or.inl ⟨?_, ?_⟩) (fun K hK => ?_)
          rotate_left
          · rfl
          · (intro W hW; (obtain ⟨d0, f0, f1, f2, _, _⟩ := HEC.out W hW); go_simp; first | done | with_reducible rfl)
          (try go_simp)
          refine hK _ _ ?_
          clear hK K
          refine takeT (i := 12) (v := ?_) rfl (by kernel_rfl) (by kernel_rfl) (by kernel_rfl) (by kernel_rfl) (fun _ _ _ h => h) (by assumption) (Or.inl ⟨?_, ?_⟩) (fun K hK => ?_)
          rotate_left
          · rfl
          · (intro W hW; (obtain ⟨d0, f0, f1, f2, _, _⟩ := HEC.out W hW); go_simp; first | done | with_reducible rfl)
          (try go_simp)
          refine hK _ _ ?_
          clear hK K
          refine takeT (i := 13) (v := ?_) rfl (by kernel_rfl) (by kernel_rfl) (by kernel_rfl) (by kernel_rfl) (fun _ _ _ h => h) (by assumption) (Or.inl ⟨?_, ?_⟩) (fun K hK => ?_)
          rotate_left
          · rfl
          · (intro W hW; (obtain ⟨d0, f0, f1, f2, _, _⟩ := HEC.out W hW); go_simp; first | done | with_reducible rfl)
          (try go_simp)
          refine hK _ _ ?_
          clear hK K
          refine takeT (i := 15) (v := ?_) rfl (by kernel_rfl) (by kernel_rfl) (by kernel_rfl) (by kernel_rfl) (fun _ _ _ h => h) (by assumption) (Or.inl ⟨?_, ?_⟩) (fun K hK => ?_)
          rotate_left
          · rfl
          · (intro W hW; (obtain ⟨d0, f0, f1, f2, _, _⟩ := HEC.out W hW); go_simp; first | done | with_reducible rfl)
          (try go_simp)
          refine hK _ _ ?_
          clear hK K
          refine callT (k := 5) (by kernel_rfl) rfl ?_ (fun K hK => ?_)
          · rfl
          go_simp
          refine hK _ _ (by assumption) ?_
          clear hK K
          refine callT (k := 14) (by kernel_rfl) rfl ?_ (fun K hK => ?_)
          · rfl
          have hown0 : OwnB (w4.drew.alloc (.cells #[] 5)) (.slice (some ⟨w4.heap.size, 0, none⟩) 0 0) [] :=
            Or.inr ⟨w4.heap.size, 0, #[], rfl, heap_alloc_new w4.drew _, Nat.le_refl _, by unfold maxLen; omega, Nat.le_refl _, rfl⟩
          have hsT := Src.ofRd (cap := x.cT) (HTW.out _ hC1)
          refine wp_append_B _ _ rfl _ [] x.T rfl hown0 _ rfl hsT (by simp; omega) ?_
          intro v5 w5 hown5 hg5 hat5
          rw [List.nil_append] at hown5
          have hf5 : ∀ g, v5.ownBlock = some g → w4.heap.size ≤ g := fun g hg => by
            rcases hat5 with h | h
            · rw [h] at hg; cases hg; exact Nat.le_refl _
            · rw [h] at hg; simp at hg; omega
          have hC2 : (fun W => Below w4.heap.size w4 W) w5 := Below.grown hC1 hg5 (by simp) (fun g hg => by cases hg; exact Nat.le_refl _)
          clear hC1 hC0 hown0 hsT hg5 hat5
          refine hK _ _ hC2 ?_
          clear hK K
          refine callT (k := 16) (by kernel_rfl) rfl ?_ (fun K hK => ?_)
          · rfl
          have hsP := Src.ofRd (cap := cP) (HPW.out _ hC2)
          refine wp_append_B _ _ rfl _ x.T P rfl hown5 _ rfl hsP (by omega) ?_
          intro v6 w6 hown6 hg6 hat6
          have hf6 : ∀ g, v6.ownBlock = some g → w4.heap.size ≤ g := fun g hg => by
            rcases hat6 with h | h
            · rw [h] at hg; exact hf5 g hg
            · rw [h] at hg; simp at hg; have := Below.size hC2; omega
          have hC3 : (fun W => Below w4.heap.size w4 W) w6 := Below.grown hC2 hg6 (Below.size hC2) (fun g hg => hf5 g hg)
          obtain ⟨bs, hbs⟩ : ∃ bs, bs = x.T ++ P := ⟨_, rfl⟩
          rw [← hbs] at hown6
          have HBS := hid hbs
          obtain ⟨aV, gV, oV, cV, rfl, hcV, hrV, _⟩ := hown6.rd
          have HFV := hid (show bs ≠ [] → w4.heap.size ≤ gV from fun hn => hf6 gV (by rw [hrV.some hn]; rfl))
          have HR5 := hid ((HRk4.out.below hC3).tail HGET.out HV.out hrV hcV (fun hn => ⟨by have := HFV.out hn; omega, by have := HFV.out hn; omega⟩))
          have HK5 := hid (show Keeps (s.Blk q) w (w6.setCell ⟨gL, i * 3 + 2, none⟩ (.slice aV bs.length cV)) from (HK4.out.trans (below_keeps hC3) (fun _ _ e => e)).setCell (fun _ => (HBK.out gL).1 (Or.inr (Or.inl (by rw [HV.out]; rfl)))) _)
          have hC3' := hC3
          clear hC2 hown5 hsP hg6 hat6 hf5 hf6 hown6 hrV hbs
          refine hK _ _ hC3 ?_
          clear hK K
          obtain ⟨d0, f0, f1, f2, z1, z2⟩ := HEC.out w6 hC3
          refine takeT (i := 17) (v := ?_) rfl (by kernel_rfl) (by kernel_rfl) (by kernel_rfl) (by kernel_rfl) (fun _ _ _ h => h) (by assumption) (Or.inl ⟨?_, ?_⟩) (fun K hK => ?_)
          rotate_left
          · rfl
          · (intro W hW; (obtain ⟨d0, f0, f1, f2, _, _⟩ := HEC.out W hW); go_simp; first | done | with_reducible rfl)
          (try go_simp)
          refine hK _ _ ?_
          clear hK K
          refine takeT (i := 18) (v := ?_) rfl (by kernel_rfl) (by kernel_rfl) (by kernel_rfl) (by kernel_rfl) (fun _ _ _ h => h) (by assumption) (Or.inl ⟨?_, ?_⟩) (fun K hK => ?_)
          rotate_left
          · rfl
          · (intro W hW; (obtain ⟨d0, f0, f1, f2, _, _⟩ := HEC.out W hW); go_simp; first | done | with_reducible rfl)
          (try go_simp)
          refine hK _ _ ?_
          clear hK K
          refine lastT (by kernel_rfl) rfl ?_ (fun K hK => ?_)
          · rfl
          go_simp
          refine hK _ _ ?_
          clear hK K
          refine doneT (by kernel_rfl) ?_
          have HP := hid (HLS.out { d.abs with l := aput d.abs.l n (x.S, bs) } _ _ (by rw [HBS.out]; exact HN.out) HR5.out (by
            unfold RkS.abs
            simp only
            rw [(HAB.out (x.S, bs) _ (by unfold RF.out; simp only [HNM.out])).2]) (fun g hg => by
            rcases blk_set hg with h1 | ⟨h1, rfl⟩ | ⟨h1, rfl⟩
            · exact Or.inl ((HBK.out g).1 h1)
            · exact Or.inl ((HBK.out _).1 (Or.inr (Or.inr ⟨x, HMEM.out, Or.inl ⟨h1, rfl⟩⟩)))
            · exact Or.inr (Nat.le_trans HK4.out.size (HFV.out h1))) HK5.out)
          clear d0 f0 f1 f2 z1 z2 hC3 hC3'
          go_wp2
          go_ret
          exact IntR.mk HP.out
set_option maxRecDepth 100000 in
set_option maxHeartbeats 3200000 in
theorem RefMove12_any (w : World) (q : Nat) (s : RkS) (n t : SKey) (h : Rk w q s) (hl : s.l.length ≤ 1000) (hs : ∀ f ∈ s.l, f.S.length + f.T.length ≤ 1073741824) (hd : (s.l.map RF.out).Pairwise (fun x y => x.1 ≠ y.1)) (hb : -1 ≤ s.fuse) (hb2 : s.fuse ≤ 9223372036854775807) : Calls Try.prog 48 #[.pointer (some ⟨q, 0, none⟩), .string n.1, .string t.1] w (IntR (RPost w q s (deedD (moveD n t) s.abs))) := by
  have HC := hid (RefDeed_any w q s h hb hb2)
  have hdl := deed_l s
  have HBK := hid (deed_blk s q)
  cases hdd : s.dead with
  | true =>
    have HR := hid (fun w' (hr : Rk w' q s.deed) (hk : Keeps (· = q) w w') => RPost.dead (f := moveD n t) hdd hr hk)
    rw [hdd] at HC
    clear hdd hdl hs hd hl h
    go_enter Try.func48, Try.ntmps48
    go_wp2_with fail
    refine HC.out.mono ?_
    rintro e w1 ⟨rfl, hr, hk⟩
    have HP := hid (HR.out w1 hr hk)
    clear hr hk
    go_wp2
    go_ret
    exact IntR.mk HP.out
  | false =>
    rw [hdd] at HC
    have HST := hid (fun (x : Int) (hf : (moveD n t) s.deed.abs = (s.deed.abs, x)) w' (hr : Rk w' q s.deed) (hk : Keeps (· = q) w w') => RPost.still (f := moveD n t) hdd hf hr hk)
    have HLS := hid (fun (r : RD) (s' : RkS) w' (hf : (moveD n t) s.deed.abs = (r, 0)) (hr : Rk w' q s') (ha : s'.abs = r) (hb : ∀ g, s'.Blk q g → s.Blk q g ∨ w.heap.size ≤ g) (hk : Keeps (s.Blk q) w w') => RPost.list (f := moveD n t) hdd hf hr ha hb hk)
    have hA := fun W (hW : Rk W q s.deed) => RefAt_any W q s.deed n hW (by rw [hdl]; exact hl)
    have HABS := hid (show s.deed.abs.l = s.deed.l.map RF.out from rfl)
    rw [← hdl] at hl hs hd
    obtain ⟨d, hde⟩ : ∃ d, d = s.deed := ⟨_, rfl⟩
    rw [← hde] at HC HST HLS hA hl hs hd HBK HABS
    have HA := hid hA
    clear hdd hdl hA h hb hb2 hde
    rcases atR_is d.l n with hat | ⟨i, x, hk, hget, hnm⟩
    · have HN := hid (abs_noR hat)
      generalize atR d.l n = i at *
      have HS0 := hid (HST.out 8 (by unfold moveD; rw [HABS.out, HN.out]))
      clear hs hd
      go_enter Try.func48, Try.ntmps48
      go_wp2_with fail
      refine HC.out.mono ?_
      rintro e w1 ⟨rfl, hr1, hk1⟩
      have HRk := hid hr1
      have HK := hid hk1
      clear hr1 hk1
      go_wp2_with fail
      refine (HA.out _ HRk.out).mono ?_
      rintro e w2 ⟨rfl, hE2⟩
      have HP := hid (HS0.out w2 (HRk.out.ext hE2) (HK.out.trans (hE2.keeps (S := (· = q))) (fun _ _ e => e)))
      clear hE2
      go_wp2
      go_ret
      exact IntR.mk HP.out
    · have hxo : aget d.abs.l n = some (x.S, x.T) := by rw [HABS.out]; exact (abs_atR hd hget hnm (x.S, x.T) (y := x) (by unfold RF.out; rw [hnm])).1
      have HXO := hid hxo
      clear hxo
      have hmem := List.mem_of_getElem? hget
      have hkn : ¬ (i : Int) < 0 := by omega
      have hsx := hs x hmem
      have HHD := hid hd
      have HGET := hid hget
      have HNM := hid hnm
      rw [hk] at HA
      have HMEM := hid hmem
      have hil : i < d.l.length := (List.getElem?_eq_some_iff.1 hget).1
      clear hk hget hnm hmem hs hd
      cases hnt : nameB t.1 with
      | false =>
        have HN := hid (HST.out 1 (by unfold moveD; rw [HXO.out]; simp only; rw [if_pos hnt]))
        go_enter Try.func48, Try.ntmps48
        go_wp2_with fail
        refine HC.out.mono ?_
        rintro e w1 ⟨rfl, hr1, hk1⟩
        have HRk1 := hid hr1
        have HK1 := hid hk1
        clear hr1 hk1
        go_wp2_with fail
        refine (HA.out _ HRk1.out).mono ?_
        rintro e w2 ⟨rfl, hE2⟩
        have HRk2 := hid (HRk1.out.ext hE2)
        have HK2 := hid (HK1.out.trans (hE2.keeps (S := (· = q))) (fun _ _ e => e))
        clear hE2
        go_wp2_with fail
        refine (RefName_any w2 t.1 t.2).mono ?_
        rw [hnt]
        rintro e w3 ⟨rfl, hE3⟩
        have HRk3 := hid (HRk2.out.ext hE3)
        have HK3 := hid (HK2.out.trans (hE3.keeps (S := (· = q))) (fun _ _ e => e))
        clear hE3 hnt
        have HP := hid (HN.out _ HRk3.out HK3.out)
        go_wp2
        go_ret
        exact IntR.mk HP.out
      | true =>
        have HN := hid (show moveD n t d.abs = ({ d.abs with l := addG ltA (adel (adel d.abs.l n) t) (t, x.S ++ x.T, []) }, 0) by unfold moveD; rw [HXO.out]; simp only; rw [if_neg (by rw [hnt]; simp)])
        go_enter Try.func48, Try.ntmps48
        go_wp2_with fail
        refine HC.out.mono ?_
        rintro e w1 ⟨rfl, hr1, hk1⟩
        have HRk1 := hid hr1
        have HK1 := hid hk1
        clear hr1 hk1
        go_wp2_with fail
        refine (HA.out _ HRk1.out).mono ?_
        rintro e w2 ⟨rfl, hE2⟩
        have HRk2 := hid (HRk1.out.ext hE2)
        have HK2 := hid (HK1.out.trans (hE2.keeps (S := (· = q))) (fun _ _ e => e))
        clear hE2
        go_wp2_with fail
        refine (RefName_any w2 t.1 t.2).mono ?_
        rw [hnt]
        rintro e w3 ⟨rfl, hE3⟩
        have HRk3 := hid (HRk2.out.ext hE3)
        have HK3 := hid (HK2.out.trans (hE3.keeps (S := (· = q))) (fun _ _ e => e))
        clear hE3 hnt
        obtain ⟨gL, cL, hv, hx, hgq, hglt⟩ := HRk3.out.view HGET.out
        have HV := hid hv
        obtain ⟨bs, hbs⟩ : ∃ bs, bs = x.S ++ x.T := ⟨_, rfl⟩
        have HBS := hid hbs
        have HALL := hid (RefAll_any w3 x (HRk3.out.ok x HMEM.out) hsx)
        rw [← hbs] at HALL
        obtain ⟨d0, f0, f1, f2, z1, z2⟩ := HRk3.out.elemC HGET.out HV.out
        clear hv hbs
        have HLEN := hid hl
        generalize hnl : d.l.length = nl at *
        rw [← hnl] at HLEN
        clear hnl
        go_wp2_with fail
        refine HALL.out.mono ?_
        rintro e w4 ⟨v, rfl, ho, hf, hb⟩
        clear d0 f0 f1 f2 z1 z2
        have HRk4 := hid (HRk3.out.below hb)
        have HK4 := hid (HK3.out.trans (below_keeps hb) (fun _ _ e => e))
        obtain ⟨aV, gV, oV, cV, rfl, hcV, hrV, _⟩ := ho.rd
        have HFV := hid (show bs ≠ [] → w3.heap.size ≤ gV from fun hn => by have := hf gV (by rw [hrV.some hn]; rfl); simpa using this)
        have HRV := hid hrV
        clear ho hf hb hrV
        go_wp2_with fail
        obtain ⟨w5, hw5⟩ : ∃ w5, w5 = w4.alloc (.cells #[.string t.1, .slice aV bs.length cV, .slice none 0 0] 88) := ⟨_, rfl⟩
        rw [← hw5]
        have hE5 : Ext w4 w5 := by rw [hw5]; exact (Ext.refl w4).alloc _
        have hB5 : w5.cell? ⟨w4.heap.size, 0, none⟩ = some (.string t.1) ∧ w5.cell? ⟨w4.heap.size, 1, none⟩ = some (.slice aV bs.length cV) ∧ w5.cell? ⟨w4.heap.size, 2, none⟩ = some (.slice none 0 0) := by rw [hw5]; simp
        have HRk5 := hid (HRk4.out.ext hE5)
        have HK5 := hid (HK4.out.trans (hE5.keeps (S := (· = q))) (fun _ _ e => e))
        have HRV5 := hid (HRV.out.below hE5.below)
        have hq4 := HRk4.out.lt q (Or.inl rfl)
        have hp8 : w4.heap.size ≠ q := by omega
        have hl6 : (dropR d.l n).length ≤ 1000 := Nat.le_trans (List.length_filter_le _ _) HLEN.out
        have hl7 : (dropR (dropR d.l n) t).length ≤ 1000 := Nat.le_trans (List.length_filter_le _ _) hl6
        generalize w4.heap.size = p8 at *
        clear hw5 hE5
        have HB5 := hid hB5
        clear hB5
        refine (RefDrop12_any w5 q d n HRk5.out HLEN.out).mono ?_
        rintro e w6 ⟨rfl, v6, hr6, hb6, hk6⟩
        have HR6 := hid hr6
        have HBK6 := hid hb6
        have HK6 := hid hk6
        clear hr6 hb6 hk6
        go_wp2_with fail
        refine (RefDrop12_any w6 q _ t HR6.out hl6).mono ?_
        rintro e w7 ⟨rfl, v7, hr7, hb7, hk7⟩
        have HR7 := hid hr7
        have HBK7 := hid hb7
        have HK57 := hid (HK6.out.trans hk7 (fun _ _ e => e))
        obtain ⟨c0, c1, c2⟩ := HB5.out
        have b0 := HK57.out.cell hp8 c0
        have b1 := HK57.out.cell hp8 c1
        have b2 := HK57.out.cell hp8 c2
        have hq3 := HRk3.out.lt q (Or.inl rfl)
        have HRV7 := hid (HRV5.out.keeps HK57.out (fun hn => by have := HFV.out hn; omega))
        have HPUT := hid (RefPut12_any w7 q _ ⟨t, aV, gV, oV, cV, bs, none, 0, 0, 0, []⟩ HR7.out hl7 ⟨HRV7.out, ⟨fun h => absurd rfl h, fun h => absurd rfl h, RdAt.nil⟩, hcV, Nat.le_refl _⟩ (fun hn => by have := HFV.out hn; simp only; omega) (fun h => absurd rfl h))
        clear hr7 hb7 hk7 c0 c1 c2
        go_wp2_with fail
        refine HPUT.out.mono ?_
        rintro e w8 ⟨rfl, v8, hr8, hb8, hk8⟩
        have hk08 := (HK5.out.trans HK57.out (fun _ _ e => e)).trans hk8 (fun _ _ e => e)
        have hs35 : w.heap.size ≤ w3.heap.size := HK3.out.size
        have HP := hid (HLS.out _ _ w8 (by rw [HN.out, ← HBS.out]) hr8 (by
          unfold RkS.abs
          simp only
          rw [← dropR_out, ← dropR_out]
          congr 1
          exact (addG_map (f := RF.out) (fun t x => ltR_eq t x) ⟨t, aV, gV, oV, cV, bs, none, 0, 0, 0, []⟩ _).symm) (fun g hg => by
          rcases hb8 g hg with h1 | h1 | h1
          · rcases HBK7.out g h1 with h2 | h2 | h2
            · rcases HBK6.out g h2 with h3 | h3 | h3
              · exact Or.inl ((HBK.out g).1 h3)
              · exact Or.inr (Nat.le_trans HK5.out.size h3)
              · exact absurd h3 (fun h => h)
            · exact Or.inr (Nat.le_trans (HK5.out.trans HK6.out (fun _ _ e => e)).size h2)
            · exact absurd h2 (fun h => h)
          · exact Or.inr (Nat.le_trans (HK5.out.trans HK57.out (fun _ _ e => e)).size h1)
          · rcases h1 with ⟨h2, rfl⟩ | ⟨h2, _⟩
            · exact Or.inr (Nat.le_trans hs35 (HFV.out h2))
            · exact absurd rfl h2) (hk08.mono (fun g _ e => Or.inl e)))
        clear hr8 hb8 hk8 hk08
        go_wp2
        go_ret
        exact IntR.mk HP.out
end Go.Proofs.Ytopabknlgmihpaa
