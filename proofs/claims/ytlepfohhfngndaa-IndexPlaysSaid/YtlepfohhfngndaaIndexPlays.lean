/- IndexPlays: whatever is done with an index, what any command meets is the document's. The walk. -/
import Derived.Test.YtlepfohhfngndaaIndexLaw
namespace Go.Proofs.Ytlepfohhfngndaa
open Go Go.RowKit Go.MapKept Go.ChangeMaps Go.Maps

set_option maxRecDepth 100000 in
set_option maxHeartbeats 8000000 in
theorem IndexPlays_great (w : World) (a : Option Addr) (g off cap : Nat) (l : List IAct) (c : Cmd) (but : Id) (h : RdS encA 10 w a g off l) (hl : l.length ≤ cap) (hcm : cap ≤ maxLen) (hg : greatL l = true ∨ greatB c = true) :
    Calls Try.prog 5 #[.slice a l.length cap, .agg #[.int .i64 c.kind, .int .i64 c.client, .int .i64 c.seq, .string c.key, .string c.val, .int .i64 c.rev], .agg #[.int .i64 but.r, .int .i64 but.n]] w fun e w' => e = .returned (.bool true) ∧ Below w.heap.size w w' := by
  have hE : Ext w ((w.alloc (.cells #[.int .i64 c.kind, .int .i64 c.client, .int .i64 c.seq, .string c.key, .string c.val, .int .i64 c.rev] 49)).alloc (.cells #[.int .i64 but.r, .int .i64 but.n] 28)) := ((Ext.refl w).alloc _).alloc _
  have hG := great_any _ a g off cap l (h.below hE.below) hl hcm
  have hC := fun W => Great_any c W
  cases hgl : greatL l
  case true =>
    rw [hgl] at hG
    have HG := hid hG
    have HE := hid hE
    clear hG hgl hg h hE hC
    go_enter Try.func5, Try.ntmps5
    go_wp2_with fail
    refine HG.out.mono ?_
    rintro e w1 ⟨rfl, hE1⟩
    have HB := hid (HE.out.trans hE1)
    clear hE1
    go_wp2_with fail
    refine (IndexAwake _).mono ?_
    rintro e w2 ⟨rfl, hb2⟩
    have HF := hid (below_trans' HB.out.below hb2)
    clear hb2
    go_wp2
    go_ret
    exact ⟨rfl, HF.out⟩
  case false =>
    have hgc : greatB c = true := by
      rcases hg with h1 | h1
      · rw [hgl] at h1; cases h1
      · exact h1
    rw [hgl] at hG
    rw [hgc] at hC
    have HG := hid hG
    have HC := hid hC
    have HE := hid hE
    clear hG hgl hg h hE hC hgc
    go_enter Try.func5, Try.ntmps5
    go_wp2_with fail
    refine HG.out.mono ?_
    rintro e w1 ⟨rfl, hE1⟩
    obtain ⟨b0, b1, b2, b3, b4, b5, d0, d1⟩ := boxCB (W := w1) c but (hE1.below.mono (by simp))
    have HB := hid (HE.out.trans hE1)
    clear hE1
    go_wp2_with fail
    refine (HC.out _).mono ?_
    rintro e w1 ⟨rfl, hE2⟩
    have HB2 := hid (HB.out.trans hE2)
    clear hE2 b0 b1 b2 b3 b4 b5 d0 d1
    go_wp2_with fail
    refine (IndexAwake _).mono ?_
    rintro e w2 ⟨rfl, hb2⟩
    have HF := hid (below_trans' HB2.out.below hb2)
    clear hb2
    go_wp2
    go_ret
    exact ⟨rfl, HF.out⟩

set_option maxRecDepth 100000 in
set_option maxHeartbeats 8000000 in
theorem IndexPlays_small (w : World) (a : Option Addr) (g off cap : Nat) (l : List IAct) (c : Cmd) (but : Id) (h : RdS encA 10 w a g off l) (hl : l.length ≤ cap) (hcm : cap ≤ maxLen) (hgl : greatL l = false) (hgc : greatB c = false) :
    Calls Try.prog 5 #[.slice a l.length cap, .agg #[.int .i64 c.kind, .int .i64 c.client, .int .i64 c.seq, .string c.key, .string c.val, .int .i64 c.rev], .agg #[.int .i64 but.r, .int .i64 but.n]] w fun e w' => e = .returned (.bool true) ∧ Below w.heap.size w w' := by
  have hl60 : l.length ≤ 60 := by
    unfold greatL at hgl
    rw [Bool.or_eq_false_iff] at hgl
    have := hgl.2
    simpa using this
  have hE : Ext w ((w.alloc (.cells #[.int .i64 c.kind, .int .i64 c.client, .int .i64 c.seq, .string c.key, .string c.val, .int .i64 c.rev] 49)).alloc (.cells #[.int .i64 but.r, .int .i64 but.n] 28)) := ((Ext.refl w).alloc _).alloc _
  have hG := great_any _ a g off cap l (h.below hE.below) hl hcm
  have hC := fun W => Great_any c W
  rw [hgl] at hG
  rw [hgc] at hC
  have HG := hid hG
  have HC := hid hC
  have HE := hid hE
  clear hG hgl hE hC hgc
  go_enter Try.func5, Try.ntmps5
  go_wp2_with fail
  refine HG.out.mono ?_
  rintro e w1 ⟨rfl, hE1⟩
  obtain ⟨b0, b1, b2, b3, b4, b5, d0, d1⟩ := boxCB (W := w1) c but (hE1.below.mono (by simp))
  go_wp2_with fail
  refine (HC.out _).mono ?_
  rintro e w2 ⟨rfl, hE2⟩
  have hb2 : Below (w.heap.size + 2) ((w.alloc (.cells #[.int .i64 c.kind, .int .i64 c.client, .int .i64 c.seq, .string c.key, .string c.val, .int .i64 c.rev] 49)).alloc (.cells #[.int .i64 but.r, .int .i64 but.n] 28)) w2 := (hE1.trans hE2).below.mono (by simp)
  clear hE2 hE1 b0 b1 b2 b3 b4 b5 d0 d1
  go_wp2_with fail
  refine (IxNew_any _).mono ?_
  rintro e w3 ⟨b, s0, rfl, hI, hla, hlk, hlc, hlw, hE3, hF⟩
  have hv := Inv.start hla hlk hlc hlw
  have hs2 : w.heap.size + 2 ≤ w2.heap.size := by have := hb2.size; simp at this; omega
  have hb3 : Below (w.heap.size + 2) ((w.alloc (.cells #[.int .i64 c.kind, .int .i64 c.client, .int .i64 c.seq, .string c.key, .string c.val, .int .i64 c.rev] 49)).alloc (.cells #[.int .i64 but.r, .int .i64 but.n] 28)) w3 := hb2.trans (hE3.below.mono hs2)
  have hF3 : ∀ g ∈ s0.blocks b, w.heap.size + 2 ≤ g := fun g hg => Nat.le_trans hs2 (hF g hg)
  clear hE3 hb2 hs2 hF
  go_wp2_with fail
  go_loopw [8, 9] (fun s8 s9 wr => ∃ (n : Nat) (s : IxS), n ≤ l.length ∧ s9 = .int .i64 n ∧ (∃ aY gY oY cY, s8 = .slice aY s.la.length cY ∧ RdS encE 9 wr aY gY oY s.la) ∧ Ix wr b s ∧ Inv s ∧ s.lk.length ≤ n ∧ s.la.length ≤ n ∧ (∀ x ∈ s.la, x.2.2 ≤ 1152921504606846976) ∧ (∀ g ∈ s.blocks b, w.heap.size + 2 ≤ g) ∧ Below (w.heap.size + 2) ((w.alloc (.cells #[.int .i64 c.kind, .int .i64 c.client, .int .i64 c.seq, .string c.key, .string c.val, .int .i64 c.rev] 49)).alloc (.cells #[.int .i64 but.r, .int .i64 but.n] 28)) wr) (fun _ s9 _ => l.length - (intOf s9).toNat)
  case atStart => exact ⟨0, s0, Nat.zero_le _, rfl, ⟨none, 0, 0, 0, by rw [hla]; rfl, by rw [hla]; exact ⟨fun h => absurd rfl h, fun h => absurd rfl h, RdAt.nil⟩⟩, hI, hv, by rw [hlk]; simp, by rw [hla]; simp, by rw [hla]; simp, hF3, hb3⟩
  case round =>
    clear hI hv hla hlk hlc hlw hF3 hb3 s0
    obtain ⟨n, s, hn, rfl, ⟨aY, gY, oY, cY, rfl, hY⟩, hI, hv, hkn, hln, hq, hbl, hb⟩ := hrel
    have hbw : Below w.heap.size w wr := HE.out.below.trans (hb.mono (by omega))
    by_cases hlt : n < l.length
    · have hx := h.index (P := Try.prog) Try.underlying47 sizeA hlt cap
      have hget : l[n]? = some l[n] := by simp [hlt]
      obtain ⟨c0, c1, c2, c3, c4, c5, c6, c7, c8, c9⟩ := RdA (h.below hbw) hget
      generalize l[n] = x at *
      obtain ⟨z, i, C, q⟩ := x
      simp only at c0 c1 c2 c3 c4 c5 c6 c7 c8 c9
      have HH := hid h
      clear hget h
      by_cases hqb : 1152921504606846976 < q
      · clear hY hI hv hq hbl
        have HB := hid hbw
        clear hb hbw
        go_wp2_with fail
        refine (IndexAwake _).mono ?_
        rintro e w2 ⟨rfl, hb2⟩
        have HF := hid (HB.out.trans (((Ext.refl wr).alloc (.cells #[.int .i64 z, .int .i64 i.r, .int .i64 i.n, .int .i64 C.kind, .int .i64 C.client, .int .i64 C.seq, .string C.key, .string C.val, .int .i64 C.rev, .int .i64 q] 56)).below.trans (hb2.mono (by simp)) |>.mono HB.out.size))
        clear hb2
        go_wp2
        go_ret
        exact ⟨rfl, HF.out⟩
      · have hEa : Ext wr (wr.alloc (.cells #[.int .i64 z, .int .i64 i.r, .int .i64 i.n, .int .i64 C.kind, .int .i64 C.client, .int .i64 C.seq, .string C.key, .string C.val, .int .i64 C.rev, .int .i64 q] 56)) := (Ext.refl wr).alloc _
        have hI1 := hI.ext hEa
        have hY1 := hY.below hEa.below
        have hb1 : Below (w.heap.size + 2) ((w.alloc (.cells #[.int .i64 c.kind, .int .i64 c.client, .int .i64 c.seq, .string c.key, .string c.val, .int .i64 c.rev] 49)).alloc (.cells #[.int .i64 but.r, .int .i64 but.n] 28)) (wr.alloc (.cells #[.int .i64 z, .int .i64 i.r, .int .i64 i.n, .int .i64 C.kind, .int .i64 C.client, .int .i64 C.seq, .string C.key, .string C.val, .int .i64 C.rev, .int .i64 q] 56)) := hb.trans (hEa.below.mono (Nat.le_trans (by simp) hb.size))
        have hlt1 := hI.lt
        have HFZ : Hid (∀ W, Below (wr.alloc (.cells #[.int .i64 z, .int .i64 i.r, .int .i64 i.n, .int .i64 C.kind, .int .i64 C.client, .int .i64 C.seq, .string C.key, .string C.val, .int .i64 C.rev, .int .i64 q] 56)).heap.size (wr.alloc (.cells #[.int .i64 z, .int .i64 i.r, .int .i64 i.n, .int .i64 C.kind, .int .i64 C.client, .int .i64 C.seq, .string C.key, .string C.val, .int .i64 C.rev, .int .i64 q] 56)) W → W.cell? ⟨wr.heap.size, 0, none⟩ = some (.int .i64 z) ∧ W.cell? ⟨wr.heap.size, 1, none⟩ = some (.int .i64 i.r) ∧ W.cell? ⟨wr.heap.size, 2, none⟩ = some (.int .i64 i.n) ∧ W.cell? ⟨wr.heap.size, 3, none⟩ = some (.int .i64 C.kind) ∧ W.cell? ⟨wr.heap.size, 4, none⟩ = some (.int .i64 C.client) ∧ W.cell? ⟨wr.heap.size, 5, none⟩ = some (.int .i64 C.seq) ∧ W.cell? ⟨wr.heap.size, 6, none⟩ = some (.string C.key) ∧ W.cell? ⟨wr.heap.size, 7, none⟩ = some (.string C.val) ∧ W.cell? ⟨wr.heap.size, 8, none⟩ = some (.int .i64 C.rev) ∧ W.cell? ⟨wr.heap.size, 9, none⟩ = some (.int .i64 q)) := fun W hW => ⟨by rw [hW.cell (p := ⟨wr.heap.size, 0, none⟩) (by simp)]; simp, by rw [hW.cell (p := ⟨wr.heap.size, 1, none⟩) (by simp)]; simp, by rw [hW.cell (p := ⟨wr.heap.size, 2, none⟩) (by simp)]; simp, by rw [hW.cell (p := ⟨wr.heap.size, 3, none⟩) (by simp)]; simp, by rw [hW.cell (p := ⟨wr.heap.size, 4, none⟩) (by simp)]; simp, by rw [hW.cell (p := ⟨wr.heap.size, 5, none⟩) (by simp)]; simp, by rw [hW.cell (p := ⟨wr.heap.size, 6, none⟩) (by simp)]; simp, by rw [hW.cell (p := ⟨wr.heap.size, 7, none⟩) (by simp)]; simp, by rw [hW.cell (p := ⟨wr.heap.size, 8, none⟩) (by simp)]; simp, by rw [hW.cell (p := ⟨wr.heap.size, 9, none⟩) (by simp)]; simp⟩
        have hsw : w.heap.size + 2 ≤ wr.heap.size := by have := hb.size; simp at this; omega
        clear hI hY hb hbw hEa
        have hla3 : s.la.length ≤ 1000 := by omega
        go_wp2_with fail
        refine (RefDrop_any _ aY gY oY cY s.la i hY1 hla3).mono ?_
        rintro e w2 ⟨v2, rfl, hown2, hb2⟩
        have hI2 := hI1.below hb2
        have hb2' : Below (w.heap.size + 2) ((w.alloc (.cells #[.int .i64 c.kind, .int .i64 c.client, .int .i64 c.seq, .string c.key, .string c.val, .int .i64 c.rev] 49)).alloc (.cells #[.int .i64 but.r, .int .i64 but.n] 28)) w2 := hb1.trans (hb2.mono (Nat.le_trans hsw (by simp)))
        obtain ⟨f0, f1, f2, f3, f4, f5, f6, f7, f8, f9⟩ := HFZ.out _ hb2
        have hs2 : wr.heap.size + 1 ≤ w2.heap.size := by have := hb2.size; simp at this; omega
        have hol2 := hown2.lt
        clear hI1 hY1 hb1 hb2 HFZ c0 c1 c2 c3 c4 c5 c6 c7 c8 c9 hx
        have hnof : ∀ g, v2.ownBlock = some g → g ∉ s.blocks b := fun g hg hx => by
          have := (hol2 g hg).1
          have := hlt1 g hx
          simp at *
          omega
        by_cases hz : z = 0
        · have hzn : (z == 0) = true := by simpa using hz
          go_wp2_with fail
          refine (IxPut_any _ b s i C q hI2 hv).mono ?_
          rintro e w4 ⟨rfl, s4, hI4, hv4, hla4, hlk4, hbl4, hk4⟩
          have hown4 : Owns (wr.alloc (.cells #[.int .i64 z, .int .i64 i.r, .int .i64 i.n, .int .i64 C.kind, .int .i64 C.client, .int .i64 C.seq, .string C.key, .string C.val, .int .i64 C.rev, .int .i64 q] 56)).heap.size 60 encE 9 w4 v2 (dropE s.la i) := hown2.same (fun g hg => hk4.block g (hol2 g hg).2 (hnof g hg))
          replace f0 := hk4.cell (fun hx => by have := hlt1 _ hx; omega) f0
          replace f1 := hk4.cell (fun hx => by have := hlt1 _ hx; omega) f1
          replace f2 := hk4.cell (fun hx => by have := hlt1 _ hx; omega) f2
          replace f3 := hk4.cell (fun hx => by have := hlt1 _ hx; omega) f3
          replace f4 := hk4.cell (fun hx => by have := hlt1 _ hx; omega) f4
          replace f5 := hk4.cell (fun hx => by have := hlt1 _ hx; omega) f5
          replace f6 := hk4.cell (fun hx => by have := hlt1 _ hx; omega) f6
          replace f7 := hk4.cell (fun hx => by have := hlt1 _ hx; omega) f7
          replace f8 := hk4.cell (fun hx => by have := hlt1 _ hx; omega) f8
          replace f9 := hk4.cell (fun hx => by have := hlt1 _ hx; omega) f9
          have hb4 : Below (w.heap.size + 2) ((w.alloc (.cells #[.int .i64 c.kind, .int .i64 c.client, .int .i64 c.seq, .string c.key, .string c.val, .int .i64 c.rev] 49)).alloc (.cells #[.int .i64 but.r, .int .i64 but.n] 28)) w4 := hb2'.trans (hk4.below (by omega) (fun g hg => hbl g hg))
          have hbl4' : ∀ g ∈ s4.blocks b, w.heap.size + 2 ≤ g := fun g hg => by
            rcases hbl4 g hg with h1 | h1
            · exact hbl g h1
            · omega
          have hs4 : wr.heap.size + 1 ≤ w4.heap.size := Nat.le_trans hs2 hk4.size
          have hlen2 : (dropE s.la i).length ≤ s.la.length := List.length_filter_le _ _
          have hlt4 := hI4.lt
          have hfr4 : ∀ g, v2.ownBlock = some g → g ∉ s4.blocks b := fun g hg hx => by
            rcases hbl4 g hx with h1 | h1
            · exact hnof g hg h1
            · have := (hol2 g hg).2; omega
          have hQ4 : ∀ x ∈ dropE s.la i ++ [(i, (C, q))], x.2.2 ≤ 1152921504606846976 := fun x hx => by
            rcases List.mem_append.1 hx with hx | hx
            · exact hq x (List.mem_filter.1 hx).1
            · rw [List.mem_singleton] at hx; subst hx; simp only; omega
          have hla5 : s4.la = dropE s.la i ++ [(i, (C, q))] := hla4
          have HLA := hid hla5
          have HQ4 := hid hQ4
          have HOL := hid hol2
          clear hI2 hb2' hown2 hk4 hq hla4 hla5 hQ4 hnof hlt1 hol2 hbl hbl4 hv
          have hbase : (wr.alloc (.cells #[.int .i64 z, .int .i64 i.r, .int .i64 i.n, .int .i64 C.kind, .int .i64 C.client, .int .i64 C.seq, .string C.key, .string C.val, .int .i64 C.rev, .int .i64 q] 56)).heap.size ≤ w4.heap.size := by simpa using hs4
          go_wp2_with (at_builtin; refine wpList_push elemE rfl _ _ rfl (wr.alloc (.cells #[.int .i64 z, .int .i64 i.r, .int .i64 i.n, .int .i64 C.kind, .int .i64 C.client, .int .i64 C.seq, .string C.key, .string C.val, .int .i64 C.rev, .int .i64 q] 56)).heap.size _ (dropE s.la i) rfl (hown4.alloc _) w4.heap.size 1 (i, (C, q)) rfl (cells_new _ _ _) (by omega) (by simp; omega) ?_)
          intro v5 w5 hown5 hgrow5
          have hgk : Keeps (fun k => v2.ownBlock = some k) w4 w5 := (((Keeps.refl _ w4).alloc _).grown hgrow5 (fun k _ hk => hk))
          have hI5 := hI4.keeps hgk (fun g hg hS => hfr4 g hS hg)
          have hb5 := hb4.trans (hgk.below (B := w.heap.size + 2) (by omega) (fun k hk => by have := (HOL.out k hk).1; simp at this; omega))
          have hq5 : ∀ x ∈ s4.la, x.2.2 ≤ 1152921504606846976 := by rw [HLA.out]; exact HQ4.out
          rw [← HLA.out] at hown5
          obtain ⟨aT, gT, oT, cT, rfl, _, hY5, _⟩ := hown5.rd encE_len
          have hla5 : s4.la.length ≤ n + 1 := by rw [HLA.out]; simp; omega
          have hlk5 : s4.lk.length ≤ n + 1 := by omega
          have hv5 := hv4
          have hbl5 := hbl4'
          clear hgk hown5 hgrow5 hI4 hown4 hb4 hv4 hbl4' hfr4 hlk4 hlt4 HQ4 HLA HOL f0 f1 f2 f3 f4 f5 f6 f7 f8 f9 hlen2 hs2

          have hlk6 : s4.lk.length ≤ 200 := by omega
          have hla6 : s4.la.length ≤ 200 := by omega
          have hla7 : s4.la.length ≤ 1000 := by omega
          have hbW : ∀ W, Below w5.heap.size w5 W → Below (w.heap.size + 2) ((w.alloc (.cells #[.int .i64 c.kind, .int .i64 c.client, .int .i64 c.seq, .string c.key, .string c.val, .int .i64 c.rev] 49)).alloc (.cells #[.int .i64 but.r, .int .i64 but.n] 28)) W := fun W hW => hb5.trans (hW.mono (Nat.le_trans (by simp) hb5.size))
          have HFF : Hid (∀ W, Below w5.heap.size w5 W → W.cell? ⟨w.heap.size, 0, none⟩ = some (.int .i64 c.kind) ∧ W.cell? ⟨w.heap.size, 1, none⟩ = some (.int .i64 c.client) ∧ W.cell? ⟨w.heap.size, 2, none⟩ = some (.int .i64 c.seq) ∧ W.cell? ⟨w.heap.size, 3, none⟩ = some (.string c.key) ∧ W.cell? ⟨w.heap.size, 4, none⟩ = some (.string c.val) ∧ W.cell? ⟨w.heap.size, 5, none⟩ = some (.int .i64 c.rev) ∧ W.cell? ⟨w.heap.size + 1, 0, none⟩ = some (.int .i64 but.r) ∧ W.cell? ⟨w.heap.size + 1, 1, none⟩ = some (.int .i64 but.n)) := fun W hW => boxCB c but (hbW W hW)
          have HLN : Hid (∀ W, Below w5.heap.size w5 W → Calls Try.prog 27 #[.pointer (some ⟨b, 0, none⟩)] W fun e w' => e = .returned (.int .i64 s4.la.length) ∧ w' = W) := fun W hW => IxLen_any W b s4 (hI5.below hW)
          have HDP : Hid (∀ W, Below w5.heap.size w5 W → Calls Try.prog 29 #[.pointer (some ⟨b, 0, none⟩), .agg #[.int .i64 c.kind, .int .i64 c.client, .int .i64 c.seq, .string c.key, .string c.val, .int .i64 c.rev], .agg #[.int .i64 but.r, .int .i64 but.n]] W fun e w' => ∃ v, e = .returned v ∧ Rd encId 2 w' v (setR (metI s4.la c but)) ∧ Below W.heap.size W w') := fun W hW => (Deps_any W b s4 c but (hI5.below hW) hv5 hlk6 hla6).mono fun e w' ⟨v, D, he, hown, hD, hb⟩ => ⟨v, he, by rw [← deps_eq (hI5.below hW) c but hD]; exact hown.rd encId_len, hb⟩
          have HRD : Hid (∀ W, Below w5.heap.size w5 W → Calls Try.prog 30 #[.slice aT s4.la.length cT, .agg #[.int .i64 c.kind, .int .i64 c.client, .int .i64 c.seq, .string c.key, .string c.val, .int .i64 c.rev], .agg #[.int .i64 but.r, .int .i64 but.n]] W fun e w' => ∃ v, e = .returned v ∧ Rd encId 2 w' v (setR (metI s4.la c but)) ∧ Below W.heap.size W w') := fun W hW => (RefDeps_any W aT gT oT cT s4.la c but (hY5.below hW) hla7).mono fun e w' ⟨v, he, hown, hb⟩ => ⟨v, he, hown.rd encId_len, hb⟩
          have HSQ : Hid (∀ W, Below w5.heap.size w5 W → Calls Try.prog 31 #[.pointer (some ⟨b, 0, none⟩), .agg #[.int .i64 c.kind, .int .i64 c.client, .int .i64 c.seq, .string c.key, .string c.val, .int .i64 c.rev], .agg #[.int .i64 but.r, .int .i64 but.n]] W fun e w' => e = .returned (.int .i64 (seqE s4.la c but + 1)) ∧ Below W.heap.size W w') := fun W hW => (Seq_any W b s4 c but (hI5.below hW) hv5 hlk6 hla6 (fun i e he => hq5 _ (mem_of_aget he))).mono fun e w' ⟨D, he, hD, hb⟩ => ⟨by rw [he, seq_eq (hI5.below hW) c but hD], hb⟩
          have HRS : Hid (∀ W, Below w5.heap.size w5 W → Calls Try.prog 32 #[.slice aT s4.la.length cT, .agg #[.int .i64 c.kind, .int .i64 c.client, .int .i64 c.seq, .string c.key, .string c.val, .int .i64 c.rev], .agg #[.int .i64 but.r, .int .i64 but.n]] W fun e w' => e = .returned (.int .i64 (seqE s4.la c but + 1)) ∧ Below W.heap.size W w') := fun W hW => RefSeq_any W aT gT oT cT s4.la c but (hY5.below hW) hla7 hq5
          have hdl : (setR (metI s4.la c but)).length ≤ 100000 := by
            have h1 : (setR (metI s4.la c but)).length ≤ 0 + (metI s4.la c but).length := setR_len _ []
            have h2 := metI_len s4.la c but
            omega
          obtain ⟨dl, hdle⟩ : ∃ dl, dl = setR (metI s4.la c but) := ⟨_, rfl⟩
          obtain ⟨sq, hsqe⟩ : ∃ sq, sq = seqE s4.la c but + 1 := ⟨_, rfl⟩
          rw [← hdle] at HDP HRD hdl
          rw [← hsqe] at HSQ HRS
          clear hdle hsqe
          have HI5 := hid hI5
          have HV5 := hid hv5
          have HY5 := hid hY5
          have HQ5 := hid hq5
          have HB5 := hid hb5
          have HBL := hid hbl5
          clear hI5 hv5 hY5 hq5 hb5 hbW hbl5
          go_wp2_with fail
          refine wp_region_C (fun W => Below w5.heap.size w5 W) (by kernel_rfl) ?_
          have hC0 : (fun W => Below w5.heap.size w5 W) w5.drew := ((Ext.refl w5).drew).below
          refine takeC (i := 0) (v := ?_) rfl (by kernel_rfl) (by kernel_rfl) (by kernel_rfl) (fun _ _ _ h => h) (by assumption) (Or.inl ⟨?_, ?_⟩) (fun K hK => ?_)
          rotate_left
          · rfl
          · (intro W hW; obtain ⟨b0, b1, b2, b3, b4, b5, d0, d1⟩ := HFF.out W hW; go_simp; first | done | with_reducible rfl)
          (try go_simp)
          refine hK _ _ ?_
          clear hK K
          refine takeC (i := 2) (v := ?_) rfl (by kernel_rfl) (by kernel_rfl) (by kernel_rfl) (fun _ _ _ h => h) (by assumption) (Or.inl ⟨?_, ?_⟩) (fun K hK => ?_)
          rotate_left
          · rfl
          · (intro W hW; obtain ⟨b0, b1, b2, b3, b4, b5, d0, d1⟩ := HFF.out W hW; go_simp; first | done | with_reducible rfl)
          (try go_simp)
          refine hK _ _ ?_
          clear hK K
          refine takeC (i := 3) (v := ?_) rfl (by kernel_rfl) (by kernel_rfl) (by kernel_rfl) (fun _ _ _ h => h) (by assumption) (Or.inl ⟨?_, ?_⟩) (fun K hK => ?_)
          rotate_left
          · rfl
          · (intro W hW; obtain ⟨b0, b1, b2, b3, b4, b5, d0, d1⟩ := HFF.out W hW; go_simp; first | done | with_reducible rfl)
          (try go_simp)
          refine hK _ _ ?_
          clear hK K
          refine callC (k := 1) (by kernel_rfl) rfl ?_ (fun K hK => ?_)
          · rfl
          go_simp
          refine (HLN.out _ hC0).mono ?_
          rintro e w6 ⟨rfl, rfl⟩
          go_wp2
          refine hK _ _ hC0 ?_
          clear hK K
          refine takeC (i := 4) (v := ?_) rfl (by kernel_rfl) (by kernel_rfl) (by kernel_rfl) (fun _ _ _ h => h) (by assumption) (Or.inl ⟨?_, ?_⟩) (fun K hK => ?_)
          rotate_left
          · rfl
          · (intro W hW; obtain ⟨b0, b1, b2, b3, b4, b5, d0, d1⟩ := HFF.out W hW; go_simp; first | done | with_reducible rfl)
          (try go_simp)
          refine hK _ _ ?_
          clear hK K
          refine takeC (i := 5) (v := ?_) rfl (by kernel_rfl) (by kernel_rfl) (by kernel_rfl) (fun _ _ _ h => h) (by assumption) (Or.inl ⟨?_, ?_⟩) (fun K hK => ?_)
          rotate_left
          · rfl
          · (intro W hW; obtain ⟨b0, b1, b2, b3, b4, b5, d0, d1⟩ := HFF.out W hW; go_simp; first | done | with_reducible rfl)
          (try go_simp)
          refine hK _ _ ?_
          clear hK K
          refine takeC (i := 6) (v := ?_) rfl (by kernel_rfl) (by kernel_rfl) (by kernel_rfl) (fun _ _ _ h => h) (by assumption) (Or.inl ⟨?_, ?_⟩) (fun K hK => ?_)
          rotate_left
          · rfl
          · (intro W hW; obtain ⟨b0, b1, b2, b3, b4, b5, d0, d1⟩ := HFF.out W hW; go_simp; first | done | with_reducible rfl)
          (try go_simp)
          refine hK _ _ ?_
          clear hK K
          refine takeC (i := 7) (v := ?_) rfl (by kernel_rfl) (by kernel_rfl) (by kernel_rfl) (fun _ _ _ h => h) (by assumption) (Or.inl ⟨?_, ?_⟩) (fun K hK => ?_)
          rotate_left
          · rfl
          · (intro W hW; obtain ⟨b0, b1, b2, b3, b4, b5, d0, d1⟩ := HFF.out W hW; go_simp; first | done | with_reducible rfl)
          (try go_simp)
          refine hK _ _ ?_
          clear hK K
          refine takeC (i := 8) (v := ?_) rfl (by kernel_rfl) (by kernel_rfl) (by kernel_rfl) (fun _ _ _ h => h) (by assumption) (Or.inl ⟨?_, ?_⟩) (fun K hK => ?_)
          rotate_left
          · rfl
          · (intro W hW; obtain ⟨b0, b1, b2, b3, b4, b5, d0, d1⟩ := HFF.out W hW; go_simp; first | done | with_reducible rfl)
          (try go_simp)
          refine hK _ _ ?_
          clear hK K
          refine takeC (i := 10) (v := ?_) rfl (by kernel_rfl) (by kernel_rfl) (by kernel_rfl) (fun _ _ _ h => h) (by assumption) (Or.inl ⟨?_, ?_⟩) (fun K hK => ?_)
          rotate_left
          · rfl
          · (intro W hW; obtain ⟨b0, b1, b2, b3, b4, b5, d0, d1⟩ := HFF.out W hW; go_simp; first | done | with_reducible rfl)
          (try go_simp)
          refine hK _ _ ?_
          clear hK K
          refine takeC (i := 11) (v := ?_) rfl (by kernel_rfl) (by kernel_rfl) (by kernel_rfl) (fun _ _ _ h => h) (by assumption) (Or.inl ⟨?_, ?_⟩) (fun K hK => ?_)
          rotate_left
          · rfl
          · (intro W hW; obtain ⟨b0, b1, b2, b3, b4, b5, d0, d1⟩ := HFF.out W hW; go_simp; first | done | with_reducible rfl)
          (try go_simp)
          refine hK _ _ ?_
          clear hK K
          refine takeC (i := 12) (v := ?_) rfl (by kernel_rfl) (by kernel_rfl) (by kernel_rfl) (fun _ _ _ h => h) (by assumption) (Or.inl ⟨?_, ?_⟩) (fun K hK => ?_)
          rotate_left
          · rfl
          · (intro W hW; obtain ⟨b0, b1, b2, b3, b4, b5, d0, d1⟩ := HFF.out W hW; go_simp; first | done | with_reducible rfl)
          (try go_simp)
          refine hK _ _ ?_
          clear hK K
          refine callC (k := 9) (by kernel_rfl) rfl ?_ (fun K hK => ?_)
          · rfl
          go_simp
          refine (HDP.out _ hC0).mono ?_
          rintro e w6 ⟨v6, rfl, hR6, hb6⟩
          obtain ⟨a6, g6, o6, c6, rfl, hc6, hr6, _⟩ := hR6
          have hC1 : (fun W => Below w5.heap.size w5 W) w6 := hC0.trans (hb6.mono (Nat.le_of_eq rfl))
          clear hb6 hC0
          go_wp2
          refine hK _ _ hC1 ?_
          clear hK K
          refine callC (k := 13) (by kernel_rfl) rfl ?_ (fun K hK => ?_)
          · rfl
          go_simp
          refine (HRD.out _ hC1).mono ?_
          rintro e w7 ⟨v7, rfl, hR7, hb7⟩
          obtain ⟨a7, g7, o7, c7, rfl, hc7, hr7, _⟩ := hR7
          replace hr6 := hr6.below hb7
          have hC2 : (fun W => Below w5.heap.size w5 W) w7 := hC1.trans (hb7.mono hC1.size)
          clear hb7 hC1
          go_wp2
          refine hK _ _ hC2 ?_
          clear hK K
          refine callC (k := 14) (by kernel_rfl) rfl ?_ (fun K hK => ?_)
          · rfl
          go_simp
          refine (RefEqual_any _ a6 g6 o6 c6 dl a7 g7 o7 c7 dl hr6 hr7 hdl hdl).mono ?_
          rintro e w8 ⟨rfl, hE8⟩
          have hC3 : (fun W => Below w5.heap.size w5 W) w8 := hC2.trans (hE8.below.mono hC2.size)
          clear hE8 hC2 hr6 hr7
          go_wp2
          refine hK _ _ hC3 ?_
          clear hK K
          refine takeC (i := 15) (v := ?_) rfl (by kernel_rfl) (by kernel_rfl) (by kernel_rfl) (fun _ _ _ h => h) (by assumption) (Or.inl ⟨?_, ?_⟩) (fun K hK => ?_)
          rotate_left
          · rfl
          · (intro W hW; obtain ⟨b0, b1, b2, b3, b4, b5, d0, d1⟩ := HFF.out W hW; go_simp; first | done | with_reducible rfl)
          (try go_simp)
          refine hK _ _ ?_
          clear hK K
          refine takeC (i := 16) (v := ?_) rfl (by kernel_rfl) (by kernel_rfl) (by kernel_rfl) (fun _ _ _ h => h) (by assumption) (Or.inl ⟨?_, ?_⟩) (fun K hK => ?_)
          rotate_left
          · rfl
          · (intro W hW; obtain ⟨b0, b1, b2, b3, b4, b5, d0, d1⟩ := HFF.out W hW; go_simp; first | done | with_reducible rfl)
          (try go_simp)
          refine hK _ _ ?_
          clear hK K
          refine takeC (i := 17) (v := ?_) rfl (by kernel_rfl) (by kernel_rfl) (by kernel_rfl) (fun _ _ _ h => h) (by assumption) (Or.inl ⟨?_, ?_⟩) (fun K hK => ?_)
          rotate_left
          · rfl
          · (intro W hW; obtain ⟨b0, b1, b2, b3, b4, b5, d0, d1⟩ := HFF.out W hW; go_simp; first | done | with_reducible rfl)
          (try go_simp)
          refine hK _ _ ?_
          clear hK K
          refine takeC (i := 18) (v := ?_) rfl (by kernel_rfl) (by kernel_rfl) (by kernel_rfl) (fun _ _ _ h => h) (by assumption) (Or.inl ⟨?_, ?_⟩) (fun K hK => ?_)
          rotate_left
          · rfl
          · (intro W hW; obtain ⟨b0, b1, b2, b3, b4, b5, d0, d1⟩ := HFF.out W hW; go_simp; first | done | with_reducible rfl)
          (try go_simp)
          refine hK _ _ ?_
          clear hK K
          refine takeC (i := 19) (v := ?_) rfl (by kernel_rfl) (by kernel_rfl) (by kernel_rfl) (fun _ _ _ h => h) (by assumption) (Or.inl ⟨?_, ?_⟩) (fun K hK => ?_)
          rotate_left
          · rfl
          · (intro W hW; obtain ⟨b0, b1, b2, b3, b4, b5, d0, d1⟩ := HFF.out W hW; go_simp; first | done | with_reducible rfl)
          (try go_simp)
          refine hK _ _ ?_
          clear hK K
          refine takeC (i := 20) (v := ?_) rfl (by kernel_rfl) (by kernel_rfl) (by kernel_rfl) (fun _ _ _ h => h) (by assumption) (Or.inl ⟨?_, ?_⟩) (fun K hK => ?_)
          rotate_left
          · rfl
          · (intro W hW; obtain ⟨b0, b1, b2, b3, b4, b5, d0, d1⟩ := HFF.out W hW; go_simp; first | done | with_reducible rfl)
          (try go_simp)
          refine hK _ _ ?_
          clear hK K
          refine takeC (i := 22) (v := ?_) rfl (by kernel_rfl) (by kernel_rfl) (by kernel_rfl) (fun _ _ _ h => h) (by assumption) (Or.inl ⟨?_, ?_⟩) (fun K hK => ?_)
          rotate_left
          · rfl
          · (intro W hW; obtain ⟨b0, b1, b2, b3, b4, b5, d0, d1⟩ := HFF.out W hW; go_simp; first | done | with_reducible rfl)
          (try go_simp)
          refine hK _ _ ?_
          clear hK K
          refine takeC (i := 23) (v := ?_) rfl (by kernel_rfl) (by kernel_rfl) (by kernel_rfl) (fun _ _ _ h => h) (by assumption) (Or.inl ⟨?_, ?_⟩) (fun K hK => ?_)
          rotate_left
          · rfl
          · (intro W hW; obtain ⟨b0, b1, b2, b3, b4, b5, d0, d1⟩ := HFF.out W hW; go_simp; first | done | with_reducible rfl)
          (try go_simp)
          refine hK _ _ ?_
          clear hK K
          refine takeC (i := 24) (v := ?_) rfl (by kernel_rfl) (by kernel_rfl) (by kernel_rfl) (fun _ _ _ h => h) (by assumption) (Or.inl ⟨?_, ?_⟩) (fun K hK => ?_)
          rotate_left
          · rfl
          · (intro W hW; obtain ⟨b0, b1, b2, b3, b4, b5, d0, d1⟩ := HFF.out W hW; go_simp; first | done | with_reducible rfl)
          (try go_simp)
          refine hK _ _ ?_
          clear hK K
          refine callC (k := 21) (by kernel_rfl) rfl ?_ (fun K hK => ?_)
          · rfl
          go_simp
          refine (HSQ.out _ hC3).mono ?_
          rintro e w9 ⟨rfl, hb9⟩
          have hC4 : (fun W => Below w5.heap.size w5 W) w9 := hC3.trans (hb9.mono hC3.size)
          clear hb9 hC3
          go_wp2
          refine hK _ _ hC4 ?_
          clear hK K
          refine callC (k := 25) (by kernel_rfl) rfl ?_ (fun K hK => ?_)
          · rfl
          go_simp
          refine (HRS.out _ hC4).mono ?_
          rintro e w10 ⟨rfl, hb10⟩
          have hC5 : (fun W => Below w5.heap.size w5 W) w10 := hC4.trans (hb10.mono hC4.size)
          clear hb10 hC4
          go_wp2
          refine hK _ _ hC5 ?_
          clear hK K
          refine takeC (i := 26) (v := ?_) rfl (by kernel_rfl) (by kernel_rfl) (by kernel_rfl) (fun _ _ _ h => h) (by assumption) (Or.inl ⟨?_, ?_⟩) (fun K hK => ?_)
          rotate_left
          · rfl
          · (intro W hW; obtain ⟨b0, b1, b2, b3, b4, b5, d0, d1⟩ := HFF.out W hW; go_simp; first | done | with_reducible rfl)
          (try go_simp)
          refine hK _ _ ?_
          clear hK K
          refine takeC (i := 27) (v := ?_) rfl (by kernel_rfl) (by kernel_rfl) (by kernel_rfl) (fun _ _ _ h => h) (by assumption) (Or.inl ⟨?_, ?_⟩) (fun K hK => ?_)
          rotate_left
          · rfl
          · (intro W hW; obtain ⟨b0, b1, b2, b3, b4, b5, d0, d1⟩ := HFF.out W hW; go_simp; first | done | with_reducible rfl)
          (try go_simp)
          refine hK _ _ ?_
          clear hK K
          refine doneC (by kernel_rfl) ?_
          go_wp2
          go_roundw
          case rel => exact ⟨n + 1, s4, by omega, by go_num, ⟨aT, gT, oT, cT, rfl, HY5.out.below hC5⟩, HI5.out.below hC5, HV5.out, by omega, by omega, HQ5.out, HBL.out, HB5.out.trans (hC5.mono (Nat.le_trans (by simp) HB5.out.size))⟩
          case measure => simp [intOf]; omega
        · have hzn : (z == 0) = false := by simpa using hz
          clear hz
          go_wp2_with fail
          refine (IxDrop_any _ b s i hI2 hv).mono ?_
          rintro e w5 ⟨rfl, s4, hI5, hv5, hla4, hbe, hlk4, hk4⟩
          have hown5 := hown2.same (w' := w5) (fun g hg => hk4.block g (hol2 g hg).2 (hnof g hg))
          have hb5 : Below (w.heap.size + 2) ((w.alloc (.cells #[.int .i64 c.kind, .int .i64 c.client, .int .i64 c.seq, .string c.key, .string c.val, .int .i64 c.rev] 49)).alloc (.cells #[.int .i64 but.r, .int .i64 but.n] 28)) w5 := hb2'.trans (hk4.below (by omega) (fun g hg => hbl g hg))
          have hbl5 : ∀ g ∈ s4.blocks b, w.heap.size + 2 ≤ g := by rw [hbe]; exact hbl
          have hla5' : s4.la = dropE s.la i := hla4
          have hq5 : ∀ x ∈ s4.la, x.2.2 ≤ 1152921504606846976 := fun x hx => hq x (by rw [hla5'] at hx; exact (List.mem_filter.1 hx).1)
          rw [← hla5'] at hown5
          obtain ⟨aT, gT, oT, cT, rfl, _, hY5, _⟩ := hown5.rd encE_len
          have hla5 : s4.la.length ≤ n + 1 := by
            have : (dropE s.la i).length ≤ s.la.length := List.length_filter_le _ _
            rw [hla5']; omega
          have hlk5 : s4.lk.length ≤ n + 1 := by rw [hlk4]; omega
          clear hk4 hown5 hI2 hown2 hb2' hla4 hla5' hbe hlk4 hq hbl hnof hlt1 hol2 f0 f1 f2 f3 f4 f5 f6 f7 f8 f9 hs2 hv

          have hlk6 : s4.lk.length ≤ 200 := by omega
          have hla6 : s4.la.length ≤ 200 := by omega
          have hla7 : s4.la.length ≤ 1000 := by omega
          have hbW : ∀ W, Below w5.heap.size w5 W → Below (w.heap.size + 2) ((w.alloc (.cells #[.int .i64 c.kind, .int .i64 c.client, .int .i64 c.seq, .string c.key, .string c.val, .int .i64 c.rev] 49)).alloc (.cells #[.int .i64 but.r, .int .i64 but.n] 28)) W := fun W hW => hb5.trans (hW.mono (Nat.le_trans (by simp) hb5.size))
          have HFF : Hid (∀ W, Below w5.heap.size w5 W → W.cell? ⟨w.heap.size, 0, none⟩ = some (.int .i64 c.kind) ∧ W.cell? ⟨w.heap.size, 1, none⟩ = some (.int .i64 c.client) ∧ W.cell? ⟨w.heap.size, 2, none⟩ = some (.int .i64 c.seq) ∧ W.cell? ⟨w.heap.size, 3, none⟩ = some (.string c.key) ∧ W.cell? ⟨w.heap.size, 4, none⟩ = some (.string c.val) ∧ W.cell? ⟨w.heap.size, 5, none⟩ = some (.int .i64 c.rev) ∧ W.cell? ⟨w.heap.size + 1, 0, none⟩ = some (.int .i64 but.r) ∧ W.cell? ⟨w.heap.size + 1, 1, none⟩ = some (.int .i64 but.n)) := fun W hW => boxCB c but (hbW W hW)
          have HLN : Hid (∀ W, Below w5.heap.size w5 W → Calls Try.prog 27 #[.pointer (some ⟨b, 0, none⟩)] W fun e w' => e = .returned (.int .i64 s4.la.length) ∧ w' = W) := fun W hW => IxLen_any W b s4 (hI5.below hW)
          have HDP : Hid (∀ W, Below w5.heap.size w5 W → Calls Try.prog 29 #[.pointer (some ⟨b, 0, none⟩), .agg #[.int .i64 c.kind, .int .i64 c.client, .int .i64 c.seq, .string c.key, .string c.val, .int .i64 c.rev], .agg #[.int .i64 but.r, .int .i64 but.n]] W fun e w' => ∃ v, e = .returned v ∧ Rd encId 2 w' v (setR (metI s4.la c but)) ∧ Below W.heap.size W w') := fun W hW => (Deps_any W b s4 c but (hI5.below hW) hv5 hlk6 hla6).mono fun e w' ⟨v, D, he, hown, hD, hb⟩ => ⟨v, he, by rw [← deps_eq (hI5.below hW) c but hD]; exact hown.rd encId_len, hb⟩
          have HRD : Hid (∀ W, Below w5.heap.size w5 W → Calls Try.prog 30 #[.slice aT s4.la.length cT, .agg #[.int .i64 c.kind, .int .i64 c.client, .int .i64 c.seq, .string c.key, .string c.val, .int .i64 c.rev], .agg #[.int .i64 but.r, .int .i64 but.n]] W fun e w' => ∃ v, e = .returned v ∧ Rd encId 2 w' v (setR (metI s4.la c but)) ∧ Below W.heap.size W w') := fun W hW => (RefDeps_any W aT gT oT cT s4.la c but (hY5.below hW) hla7).mono fun e w' ⟨v, he, hown, hb⟩ => ⟨v, he, hown.rd encId_len, hb⟩
          have HSQ : Hid (∀ W, Below w5.heap.size w5 W → Calls Try.prog 31 #[.pointer (some ⟨b, 0, none⟩), .agg #[.int .i64 c.kind, .int .i64 c.client, .int .i64 c.seq, .string c.key, .string c.val, .int .i64 c.rev], .agg #[.int .i64 but.r, .int .i64 but.n]] W fun e w' => e = .returned (.int .i64 (seqE s4.la c but + 1)) ∧ Below W.heap.size W w') := fun W hW => (Seq_any W b s4 c but (hI5.below hW) hv5 hlk6 hla6 (fun i e he => hq5 _ (mem_of_aget he))).mono fun e w' ⟨D, he, hD, hb⟩ => ⟨by rw [he, seq_eq (hI5.below hW) c but hD], hb⟩
          have HRS : Hid (∀ W, Below w5.heap.size w5 W → Calls Try.prog 32 #[.slice aT s4.la.length cT, .agg #[.int .i64 c.kind, .int .i64 c.client, .int .i64 c.seq, .string c.key, .string c.val, .int .i64 c.rev], .agg #[.int .i64 but.r, .int .i64 but.n]] W fun e w' => e = .returned (.int .i64 (seqE s4.la c but + 1)) ∧ Below W.heap.size W w') := fun W hW => RefSeq_any W aT gT oT cT s4.la c but (hY5.below hW) hla7 hq5
          have hdl : (setR (metI s4.la c but)).length ≤ 100000 := by
            have h1 : (setR (metI s4.la c but)).length ≤ 0 + (metI s4.la c but).length := setR_len _ []
            have h2 := metI_len s4.la c but
            omega
          obtain ⟨dl, hdle⟩ : ∃ dl, dl = setR (metI s4.la c but) := ⟨_, rfl⟩
          obtain ⟨sq, hsqe⟩ : ∃ sq, sq = seqE s4.la c but + 1 := ⟨_, rfl⟩
          rw [← hdle] at HDP HRD hdl
          rw [← hsqe] at HSQ HRS
          clear hdle hsqe
          have HI5 := hid hI5
          have HV5 := hid hv5
          have HY5 := hid hY5
          have HQ5 := hid hq5
          have HB5 := hid hb5
          have HBL := hid hbl5
          clear hI5 hv5 hY5 hq5 hb5 hbW hbl5
          go_wp2_with fail
          refine wp_region_C (fun W => Below w5.heap.size w5 W) (by kernel_rfl) ?_
          have hC0 : (fun W => Below w5.heap.size w5 W) w5.drew := ((Ext.refl w5).drew).below
          refine takeC (i := 0) (v := ?_) rfl (by kernel_rfl) (by kernel_rfl) (by kernel_rfl) (fun _ _ _ h => h) (by assumption) (Or.inl ⟨?_, ?_⟩) (fun K hK => ?_)
          rotate_left
          · rfl
          · (intro W hW; obtain ⟨b0, b1, b2, b3, b4, b5, d0, d1⟩ := HFF.out W hW; go_simp; first | done | with_reducible rfl)
          (try go_simp)
          refine hK _ _ ?_
          clear hK K
          refine takeC (i := 2) (v := ?_) rfl (by kernel_rfl) (by kernel_rfl) (by kernel_rfl) (fun _ _ _ h => h) (by assumption) (Or.inl ⟨?_, ?_⟩) (fun K hK => ?_)
          rotate_left
          · rfl
          · (intro W hW; obtain ⟨b0, b1, b2, b3, b4, b5, d0, d1⟩ := HFF.out W hW; go_simp; first | done | with_reducible rfl)
          (try go_simp)
          refine hK _ _ ?_
          clear hK K
          refine takeC (i := 3) (v := ?_) rfl (by kernel_rfl) (by kernel_rfl) (by kernel_rfl) (fun _ _ _ h => h) (by assumption) (Or.inl ⟨?_, ?_⟩) (fun K hK => ?_)
          rotate_left
          · rfl
          · (intro W hW; obtain ⟨b0, b1, b2, b3, b4, b5, d0, d1⟩ := HFF.out W hW; go_simp; first | done | with_reducible rfl)
          (try go_simp)
          refine hK _ _ ?_
          clear hK K
          refine callC (k := 1) (by kernel_rfl) rfl ?_ (fun K hK => ?_)
          · rfl
          go_simp
          refine (HLN.out _ hC0).mono ?_
          rintro e w6 ⟨rfl, rfl⟩
          go_wp2
          refine hK _ _ hC0 ?_
          clear hK K
          refine takeC (i := 4) (v := ?_) rfl (by kernel_rfl) (by kernel_rfl) (by kernel_rfl) (fun _ _ _ h => h) (by assumption) (Or.inl ⟨?_, ?_⟩) (fun K hK => ?_)
          rotate_left
          · rfl
          · (intro W hW; obtain ⟨b0, b1, b2, b3, b4, b5, d0, d1⟩ := HFF.out W hW; go_simp; first | done | with_reducible rfl)
          (try go_simp)
          refine hK _ _ ?_
          clear hK K
          refine takeC (i := 5) (v := ?_) rfl (by kernel_rfl) (by kernel_rfl) (by kernel_rfl) (fun _ _ _ h => h) (by assumption) (Or.inl ⟨?_, ?_⟩) (fun K hK => ?_)
          rotate_left
          · rfl
          · (intro W hW; obtain ⟨b0, b1, b2, b3, b4, b5, d0, d1⟩ := HFF.out W hW; go_simp; first | done | with_reducible rfl)
          (try go_simp)
          refine hK _ _ ?_
          clear hK K
          refine takeC (i := 6) (v := ?_) rfl (by kernel_rfl) (by kernel_rfl) (by kernel_rfl) (fun _ _ _ h => h) (by assumption) (Or.inl ⟨?_, ?_⟩) (fun K hK => ?_)
          rotate_left
          · rfl
          · (intro W hW; obtain ⟨b0, b1, b2, b3, b4, b5, d0, d1⟩ := HFF.out W hW; go_simp; first | done | with_reducible rfl)
          (try go_simp)
          refine hK _ _ ?_
          clear hK K
          refine takeC (i := 7) (v := ?_) rfl (by kernel_rfl) (by kernel_rfl) (by kernel_rfl) (fun _ _ _ h => h) (by assumption) (Or.inl ⟨?_, ?_⟩) (fun K hK => ?_)
          rotate_left
          · rfl
          · (intro W hW; obtain ⟨b0, b1, b2, b3, b4, b5, d0, d1⟩ := HFF.out W hW; go_simp; first | done | with_reducible rfl)
          (try go_simp)
          refine hK _ _ ?_
          clear hK K
          refine takeC (i := 8) (v := ?_) rfl (by kernel_rfl) (by kernel_rfl) (by kernel_rfl) (fun _ _ _ h => h) (by assumption) (Or.inl ⟨?_, ?_⟩) (fun K hK => ?_)
          rotate_left
          · rfl
          · (intro W hW; obtain ⟨b0, b1, b2, b3, b4, b5, d0, d1⟩ := HFF.out W hW; go_simp; first | done | with_reducible rfl)
          (try go_simp)
          refine hK _ _ ?_
          clear hK K
          refine takeC (i := 10) (v := ?_) rfl (by kernel_rfl) (by kernel_rfl) (by kernel_rfl) (fun _ _ _ h => h) (by assumption) (Or.inl ⟨?_, ?_⟩) (fun K hK => ?_)
          rotate_left
          · rfl
          · (intro W hW; obtain ⟨b0, b1, b2, b3, b4, b5, d0, d1⟩ := HFF.out W hW; go_simp; first | done | with_reducible rfl)
          (try go_simp)
          refine hK _ _ ?_
          clear hK K
          refine takeC (i := 11) (v := ?_) rfl (by kernel_rfl) (by kernel_rfl) (by kernel_rfl) (fun _ _ _ h => h) (by assumption) (Or.inl ⟨?_, ?_⟩) (fun K hK => ?_)
          rotate_left
          · rfl
          · (intro W hW; obtain ⟨b0, b1, b2, b3, b4, b5, d0, d1⟩ := HFF.out W hW; go_simp; first | done | with_reducible rfl)
          (try go_simp)
          refine hK _ _ ?_
          clear hK K
          refine takeC (i := 12) (v := ?_) rfl (by kernel_rfl) (by kernel_rfl) (by kernel_rfl) (fun _ _ _ h => h) (by assumption) (Or.inl ⟨?_, ?_⟩) (fun K hK => ?_)
          rotate_left
          · rfl
          · (intro W hW; obtain ⟨b0, b1, b2, b3, b4, b5, d0, d1⟩ := HFF.out W hW; go_simp; first | done | with_reducible rfl)
          (try go_simp)
          refine hK _ _ ?_
          clear hK K
          refine callC (k := 9) (by kernel_rfl) rfl ?_ (fun K hK => ?_)
          · rfl
          go_simp
          refine (HDP.out _ hC0).mono ?_
          rintro e w6 ⟨v6, rfl, hR6, hb6⟩
          obtain ⟨a6, g6, o6, c6, rfl, hc6, hr6, _⟩ := hR6
          have hC1 : (fun W => Below w5.heap.size w5 W) w6 := hC0.trans (hb6.mono (Nat.le_of_eq rfl))
          clear hb6 hC0
          go_wp2
          refine hK _ _ hC1 ?_
          clear hK K
          refine callC (k := 13) (by kernel_rfl) rfl ?_ (fun K hK => ?_)
          · rfl
          go_simp
          refine (HRD.out _ hC1).mono ?_
          rintro e w7 ⟨v7, rfl, hR7, hb7⟩
          obtain ⟨a7, g7, o7, c7, rfl, hc7, hr7, _⟩ := hR7
          replace hr6 := hr6.below hb7
          have hC2 : (fun W => Below w5.heap.size w5 W) w7 := hC1.trans (hb7.mono hC1.size)
          clear hb7 hC1
          go_wp2
          refine hK _ _ hC2 ?_
          clear hK K
          refine callC (k := 14) (by kernel_rfl) rfl ?_ (fun K hK => ?_)
          · rfl
          go_simp
          refine (RefEqual_any _ a6 g6 o6 c6 dl a7 g7 o7 c7 dl hr6 hr7 hdl hdl).mono ?_
          rintro e w8 ⟨rfl, hE8⟩
          have hC3 : (fun W => Below w5.heap.size w5 W) w8 := hC2.trans (hE8.below.mono hC2.size)
          clear hE8 hC2 hr6 hr7
          go_wp2
          refine hK _ _ hC3 ?_
          clear hK K
          refine takeC (i := 15) (v := ?_) rfl (by kernel_rfl) (by kernel_rfl) (by kernel_rfl) (fun _ _ _ h => h) (by assumption) (Or.inl ⟨?_, ?_⟩) (fun K hK => ?_)
          rotate_left
          · rfl
          · (intro W hW; obtain ⟨b0, b1, b2, b3, b4, b5, d0, d1⟩ := HFF.out W hW; go_simp; first | done | with_reducible rfl)
          (try go_simp)
          refine hK _ _ ?_
          clear hK K
          refine takeC (i := 16) (v := ?_) rfl (by kernel_rfl) (by kernel_rfl) (by kernel_rfl) (fun _ _ _ h => h) (by assumption) (Or.inl ⟨?_, ?_⟩) (fun K hK => ?_)
          rotate_left
          · rfl
          · (intro W hW; obtain ⟨b0, b1, b2, b3, b4, b5, d0, d1⟩ := HFF.out W hW; go_simp; first | done | with_reducible rfl)
          (try go_simp)
          refine hK _ _ ?_
          clear hK K
          refine takeC (i := 17) (v := ?_) rfl (by kernel_rfl) (by kernel_rfl) (by kernel_rfl) (fun _ _ _ h => h) (by assumption) (Or.inl ⟨?_, ?_⟩) (fun K hK => ?_)
          rotate_left
          · rfl
          · (intro W hW; obtain ⟨b0, b1, b2, b3, b4, b5, d0, d1⟩ := HFF.out W hW; go_simp; first | done | with_reducible rfl)
          (try go_simp)
          refine hK _ _ ?_
          clear hK K
          refine takeC (i := 18) (v := ?_) rfl (by kernel_rfl) (by kernel_rfl) (by kernel_rfl) (fun _ _ _ h => h) (by assumption) (Or.inl ⟨?_, ?_⟩) (fun K hK => ?_)
          rotate_left
          · rfl
          · (intro W hW; obtain ⟨b0, b1, b2, b3, b4, b5, d0, d1⟩ := HFF.out W hW; go_simp; first | done | with_reducible rfl)
          (try go_simp)
          refine hK _ _ ?_
          clear hK K
          refine takeC (i := 19) (v := ?_) rfl (by kernel_rfl) (by kernel_rfl) (by kernel_rfl) (fun _ _ _ h => h) (by assumption) (Or.inl ⟨?_, ?_⟩) (fun K hK => ?_)
          rotate_left
          · rfl
          · (intro W hW; obtain ⟨b0, b1, b2, b3, b4, b5, d0, d1⟩ := HFF.out W hW; go_simp; first | done | with_reducible rfl)
          (try go_simp)
          refine hK _ _ ?_
          clear hK K
          refine takeC (i := 20) (v := ?_) rfl (by kernel_rfl) (by kernel_rfl) (by kernel_rfl) (fun _ _ _ h => h) (by assumption) (Or.inl ⟨?_, ?_⟩) (fun K hK => ?_)
          rotate_left
          · rfl
          · (intro W hW; obtain ⟨b0, b1, b2, b3, b4, b5, d0, d1⟩ := HFF.out W hW; go_simp; first | done | with_reducible rfl)
          (try go_simp)
          refine hK _ _ ?_
          clear hK K
          refine takeC (i := 22) (v := ?_) rfl (by kernel_rfl) (by kernel_rfl) (by kernel_rfl) (fun _ _ _ h => h) (by assumption) (Or.inl ⟨?_, ?_⟩) (fun K hK => ?_)
          rotate_left
          · rfl
          · (intro W hW; obtain ⟨b0, b1, b2, b3, b4, b5, d0, d1⟩ := HFF.out W hW; go_simp; first | done | with_reducible rfl)
          (try go_simp)
          refine hK _ _ ?_
          clear hK K
          refine takeC (i := 23) (v := ?_) rfl (by kernel_rfl) (by kernel_rfl) (by kernel_rfl) (fun _ _ _ h => h) (by assumption) (Or.inl ⟨?_, ?_⟩) (fun K hK => ?_)
          rotate_left
          · rfl
          · (intro W hW; obtain ⟨b0, b1, b2, b3, b4, b5, d0, d1⟩ := HFF.out W hW; go_simp; first | done | with_reducible rfl)
          (try go_simp)
          refine hK _ _ ?_
          clear hK K
          refine takeC (i := 24) (v := ?_) rfl (by kernel_rfl) (by kernel_rfl) (by kernel_rfl) (fun _ _ _ h => h) (by assumption) (Or.inl ⟨?_, ?_⟩) (fun K hK => ?_)
          rotate_left
          · rfl
          · (intro W hW; obtain ⟨b0, b1, b2, b3, b4, b5, d0, d1⟩ := HFF.out W hW; go_simp; first | done | with_reducible rfl)
          (try go_simp)
          refine hK _ _ ?_
          clear hK K
          refine callC (k := 21) (by kernel_rfl) rfl ?_ (fun K hK => ?_)
          · rfl
          go_simp
          refine (HSQ.out _ hC3).mono ?_
          rintro e w9 ⟨rfl, hb9⟩
          have hC4 : (fun W => Below w5.heap.size w5 W) w9 := hC3.trans (hb9.mono hC3.size)
          clear hb9 hC3
          go_wp2
          refine hK _ _ hC4 ?_
          clear hK K
          refine callC (k := 25) (by kernel_rfl) rfl ?_ (fun K hK => ?_)
          · rfl
          go_simp
          refine (HRS.out _ hC4).mono ?_
          rintro e w10 ⟨rfl, hb10⟩
          have hC5 : (fun W => Below w5.heap.size w5 W) w10 := hC4.trans (hb10.mono hC4.size)
          clear hb10 hC4
          go_wp2
          refine hK _ _ hC5 ?_
          clear hK K
          refine takeC (i := 26) (v := ?_) rfl (by kernel_rfl) (by kernel_rfl) (by kernel_rfl) (fun _ _ _ h => h) (by assumption) (Or.inl ⟨?_, ?_⟩) (fun K hK => ?_)
          rotate_left
          · rfl
          · (intro W hW; obtain ⟨b0, b1, b2, b3, b4, b5, d0, d1⟩ := HFF.out W hW; go_simp; first | done | with_reducible rfl)
          (try go_simp)
          refine hK _ _ ?_
          clear hK K
          refine takeC (i := 27) (v := ?_) rfl (by kernel_rfl) (by kernel_rfl) (by kernel_rfl) (fun _ _ _ h => h) (by assumption) (Or.inl ⟨?_, ?_⟩) (fun K hK => ?_)
          rotate_left
          · rfl
          · (intro W hW; obtain ⟨b0, b1, b2, b3, b4, b5, d0, d1⟩ := HFF.out W hW; go_simp; first | done | with_reducible rfl)
          (try go_simp)
          refine hK _ _ ?_
          clear hK K
          refine doneC (by kernel_rfl) ?_
          go_wp2
          go_roundw
          case rel => exact ⟨n + 1, s4, by omega, by go_num, ⟨aT, gT, oT, cT, rfl, HY5.out.below hC5⟩, HI5.out.below hC5, HV5.out, by omega, by omega, HQ5.out, HBL.out, HB5.out.trans (hC5.mono (Nat.le_trans (by simp) HB5.out.size))⟩
          case measure => simp [intOf]; omega
    · clear hI hY hv hq hbl hbw h
      have HB := hid hb
      clear hb
      go_wp2_with fail
      refine (IndexAwake _).mono ?_
      rintro e w2 ⟨rfl, hb2⟩
      have HF := hid ((HE.out.below.trans (HB.out.mono (by omega))).trans (hb2.mono (by have := HB.out.size; simp at this; omega)))
      clear hb2
      go_wp2
      go_ret
      exact ⟨rfl, HF.out⟩

theorem IndexPlays_any (w : World) (a : Option Addr) (g off cap : Nat) (l : List IAct) (c : Cmd) (but : Id) (h : RdS encA 10 w a g off l) (hl : l.length ≤ cap) (hcm : cap ≤ maxLen) :
    Calls Try.prog 5 #[.slice a l.length cap, .agg #[.int .i64 c.kind, .int .i64 c.client, .int .i64 c.seq, .string c.key, .string c.val, .int .i64 c.rev], .agg #[.int .i64 but.r, .int .i64 but.n]] w fun e w' => e = .returned (.bool true) ∧ Below w.heap.size w w' := by
  cases h1 : greatL l
  case true => exact IndexPlays_great w a g off cap l c but h hl hcm (Or.inl h1)
  case false =>
    cases h2 : greatB c
    case true => exact IndexPlays_great w a g off cap l c but h hl hcm (Or.inr h2)
    case false => exact IndexPlays_small w a g off cap l c but h hl hcm h1 h2
end Go.Proofs.Ytlepfohhfngndaa
