/- IndexAll: a barrier meets all but no-ops; a no-op meets none; what is dropped is met no more. The walk. -/
import Derived.Test.YtlepfohhfngndaaIndexLaw
import Derived.Test.YtlepfohhfngndaaHas
namespace Go.Proofs.Ytlepfohhfngndaa
open Go Go.RowKit Go.MapKept Go.ChangeMaps Go.Maps

def idN : Id := ⟨-1, 0, by unfold I64; omega, by unfold I64; omega⟩
def cW : Cmd := ⟨6, 0, 0, ⟨#[]⟩, ⟨#[]⟩, 0, by unfold I64; omega, by unfold maxLen; decide⟩
def cZ : Cmd := ⟨0, 0, 0, ⟨#[]⟩, ⟨#[]⟩, 0, by unfold I64; omega, by unfold maxLen; decide⟩
def allI (la : List (Id × CE)) : List Id := (la.filter (fun x => x.2.1.kind != 0)).map (·.1)
theorem allI_len (la : List (Id × CE)) : (allI la).length ≤ la.length := by
  unfold allI
  rw [List.length_map]
  exact List.length_filter_le _ _
theorem allI_adel (la : List (Id × CE)) (j : Id) : allI (adel la j) = delI (allI la) j := by
  unfold allI adel delI
  induction la with
  | nil => rfl
  | cons x r ih =>
    by_cases h1 : x.1 = j
    · rw [List.filter_cons_of_neg (by simp [h1]), ih]
      by_cases h2 : x.2.1.kind = 0
      · rw [List.filter_cons_of_neg (by simp [h2])]
      · rw [List.filter_cons_of_pos (by simp [h2]), List.map_cons, List.filter_cons_of_neg (by simp [h1])]
    · rw [List.filter_cons_of_pos (by simp [h1])]
      by_cases h2 : x.2.1.kind = 0
      · rw [List.filter_cons_of_neg (by simp [h2]), List.filter_cons_of_neg (by simp [h2]), ih]
      · rw [List.filter_cons_of_pos (by simp [h2]), List.filter_cons_of_pos (by simp [h2]), List.map_cons, List.map_cons, List.filter_cons_of_pos (by simp [h1]), ih]
theorem allI_put0 (la : List (Id × CE)) (j : Id) (C : Cmd) (q : Int) (h : C.kind = 0) : allI (adel la j ++ [(j, (C, q))]) = delI (allI la) j := by
  rw [← allI_adel]
  unfold allI
  rw [List.filter_append, List.filter_cons_of_neg (by simp [h])]
  simp
theorem allI_put1 (la : List (Id × CE)) (j : Id) (C : Cmd) (q : Int) (h : C.kind ≠ 0) : allI (adel la j ++ [(j, (C, q))]) = delI (allI la) j ++ [j] := by
  rw [← allI_adel]
  unfold allI
  rw [List.filter_append, List.filter_cons_of_pos (by simp [h]), List.map_append]
  rfl
theorem wall_met (la : List (Id × CE)) (h : ∀ x ∈ la, 0 ≤ x.1.r) : metI la cW idN = allI la := by
  unfold metI allI
  congr 1
  refine List.filter_congr (fun x hx => ?_)
  have h1 : x.1 ≠ idN := fun e => by
    have := h x hx
    rw [e] at this
    change (0 : Int) ≤ -1 at this
    omega
  unfold meetsE meetB
  simp only [h1, decide_false, Bool.not_false, Bool.true_and]
  have h2 : (cW.kind == 0) = false := rfl
  have h3 : (cW.kind == 6) = true := rfl
  rw [h2, h3]
  cases hz : (x.2.1.kind == 0) <;> simp [bne, hz]
theorem zero_met (la : List (Id × CE)) : metI la cZ idN = [] := by
  unfold metI
  rw [List.filter_eq_nil_iff.2 (fun x _ => ?_)]
  · rfl
  · unfold meetsE meetB
    have h2 : (cZ.kind == 0) = true := rfl
    rw [h2]
    simp
theorem drop_met (la : List (Id × CE)) (i : Id) (h : ∀ x ∈ la, 0 ≤ x.1.r) : setR (metI (adel la i) cW idN) = delI (setR (allI la)) i := by
  rw [wall_met (adel la i) (fun x hx => h x (List.mem_filter.1 hx).1), allI_adel]
  refine strict_ext (setR_strict _) (List.Pairwise.filter _ (setR_strict _)) (fun x => ?_)
  unfold delI
  rw [setR_mem, List.mem_filter, List.mem_filter, setR_mem]
set_option maxRecDepth 100000 in
set_option maxHeartbeats 8000000 in
theorem IA_great (w : World) (a : Option Addr) (g off cap : Nat) (l : List IAct) (i : Id) (h : RdS encA 10 w a g off l) (hl : l.length ≤ cap) (hcm : cap ≤ maxLen) (hg : greatL l = true) :
    Calls Try.prog 6 #[.slice a l.length cap, .agg #[.int .i64 i.r, .int .i64 i.n]] w fun e w' => e = .returned (.bool true) ∧ Below w.heap.size w w' := by
  have hE : Ext w (w.alloc (.cells #[.int .i64 i.r, .int .i64 i.n] 28)) := (Ext.refl w).alloc _
  have hG := great_any _ a g off cap l (h.below hE.below) hl hcm
  rw [hg] at hG
  have HG := hid hG
  have HE := hid hE
  clear hG hg h hE
  go_enter Try.func6, Try.ntmps6
  go_wp2_with fail
  refine HG.out.mono ?_
  rintro e w1 ⟨rfl, hE1⟩
  have HBB := hid ((HE.out.trans hE1).below)
  clear hE1
  go_wp2_with fail
  refine (IndexAwake _).mono ?_
  rintro e w9 ⟨rfl, hb9⟩
  have HF := hid (below_trans' HBB.out hb9)
  clear hb9
  go_wp2
  go_ret
  exact ⟨rfl, HF.out⟩
set_option maxRecDepth 100000 in
set_option maxHeartbeats 8000000 in
theorem IA_small (w : World) (a : Option Addr) (g off cap : Nat) (l : List IAct) (i : Id) (h : RdS encA 10 w a g off l) (hl : l.length ≤ cap) (hcm : cap ≤ maxLen) (hg : greatL l = false) :
    Calls Try.prog 6 #[.slice a l.length cap, .agg #[.int .i64 i.r, .int .i64 i.n]] w fun e w' => e = .returned (.bool true) ∧ Below w.heap.size w w' := by
  have hl60 : l.length ≤ 60 := by
    unfold greatL at hg
    rw [Bool.or_eq_false_iff] at hg
    have := hg.2
    simpa using this
  have hE : Ext w (w.alloc (.cells #[.int .i64 i.r, .int .i64 i.n] 28)) := (Ext.refl w).alloc _
  have hG := great_any _ a g off cap l (h.below hE.below) hl hcm
  rw [hg] at hG
  have HG := hid hG
  have HE := hid hE
  have hbW : ∀ W, Below (w.heap.size + 1) (w.alloc (.cells #[.int .i64 i.r, .int .i64 i.n] 28)) W → Below w.heap.size w W := fun W hW => HE.out.below.trans (hW.mono (by omega))
  clear hG hg hE
  go_enter Try.func6, Try.ntmps6
  go_wp2_with fail
  refine HG.out.mono ?_
  rintro e w1 ⟨rfl, hE1⟩
  have hb1 : Below (w.heap.size + 1) (w.alloc (.cells #[.int .i64 i.r, .int .i64 i.n] 28)) w1 := hE1.below.mono (by simp)
  clear hE1
  go_wp2_with fail
  refine (IxNew_any _).mono ?_
  rintro e w3 ⟨b, s0, rfl, hI, hla, hlk, hlc, hlw, hE3, hF⟩
  have hv := Inv.start hla hlk hlc hlw
  have hs2 : w.heap.size + 1 ≤ w1.heap.size := by have := hb1.size; simp at this; omega
  have hb3 : Below (w.heap.size + 1) (w.alloc (.cells #[.int .i64 i.r, .int .i64 i.n] 28)) w3 := hb1.trans (hE3.below.mono hs2)
  have hF3 : ∀ g ∈ s0.blocks b, w.heap.size + 1 ≤ g := fun g hg => Nat.le_trans hs2 (hF g hg)
  clear hE3 hb1 hs2 hF
  go_wp2_with fail
  go_loopw [6, 7] (fun s6 s7 wr => ∃ (n : Nat) (s : IxS), n ≤ l.length ∧ s7 = .int .i64 n ∧ Owns (w.heap.size + 1) 28 encId 2 wr s6 (allI s.la) ∧ (∀ g, s6.ownBlock = some g → g ∉ s.blocks b) ∧ Ix wr b s ∧ Inv s ∧ s.lk.length ≤ n ∧ s.la.length ≤ n ∧ (∀ x ∈ s.la, 0 ≤ x.1.r) ∧ (∀ x ∈ s.la, x.2.2 = 1) ∧ (∀ g ∈ s.blocks b, w.heap.size + 1 ≤ g) ∧ Below (w.heap.size + 1) (w.alloc (.cells #[.int .i64 i.r, .int .i64 i.n] 28)) wr) (fun _ s7 _ => l.length - (intOf s7).toNat)
  case atStart => exact ⟨0, s0, Nat.zero_le _, rfl, by rw [hla]; exact Owns.nil _ _ _ _ _, (fun g hg => by cases hg), hI, hv, by rw [hlk]; simp, by rw [hla]; simp, by rw [hla]; simp, by rw [hla]; simp, hF3, hb3⟩
  case round =>
    clear hI hv hla hlk hlc hlw hF3 hb3 s0
    obtain ⟨n, s, hn, rfl, hown, hnot, hI, hv, hkn, hln, hr0, hq1, hbl, hb⟩ := hrel
    have hol := hown.lt
    have hownR := hown
    have hownR2 := hown.rd encId_len
    obtain ⟨aL, gL, oL, cL, rfl, _, hrL, _⟩ := hownR2
    clear hownR
    have hllen := allI_len s.la
    by_cases hlt : n < l.length
    · have hx := h.index (P := Try.prog) Try.underlying47 sizeA hlt cap
      have hget : l[n]? = some l[n] := by simp [hlt]
      generalize l[n] = x at *
      obtain ⟨z, j, C, q⟩ := x
      have HCF : Hid (∀ W, Below w.heap.size w W → W.cell? ⟨g, off + n * 10, none⟩ = some (.int .i64 z) ∧ W.cell? ⟨g, off + n * 10 + 1, none⟩ = some (.int .i64 j.r) ∧ W.cell? ⟨g, off + n * 10 + 2, none⟩ = some (.int .i64 j.n) ∧ W.cell? ⟨g, off + n * 10 + 3, none⟩ = some (.int .i64 C.kind) ∧ W.cell? ⟨g, off + n * 10 + 4, none⟩ = some (.int .i64 C.client) ∧ W.cell? ⟨g, off + n * 10 + 5, none⟩ = some (.int .i64 C.seq) ∧ W.cell? ⟨g, off + n * 10 + 6, none⟩ = some (.string C.key) ∧ W.cell? ⟨g, off + n * 10 + 7, none⟩ = some (.string C.val) ∧ W.cell? ⟨g, off + n * 10 + 8, none⟩ = some (.int .i64 C.rev) ∧ W.cell? ⟨g, off + n * 10 + 9, none⟩ = some (.int .i64 q)) := fun W hW => RdA (h.below hW) hget
      have HH := hid h
      clear hget h
      obtain ⟨c0, c1, c2, c3, c4, c5, c6, c7, c8, c9⟩ := HCF.out wr (hbW _ hb)
      by_cases hj : j.r < 0
      · have HBB := hid (hbW _ hb)
        clear hown hnot hI hv hr0 hq1 hbl hb hrL hol hllen hbW
        go_wp2_with fail
        refine (IndexAwake _).mono ?_
        rintro e w9 ⟨rfl, hb9⟩
        have HF := hid (below_trans' HBB.out hb9)
        clear hb9
        go_wp2
        go_ret
        exact ⟨rfl, HF.out⟩
      · have hsw : w.heap.size + 1 ≤ wr.heap.size := by have := hb.size; simp at this; omega
        have hlt1 := hI.lt
        have HLT := hid hlt1
        have HOW := hid hown
        have HNOT := hid hnot
        have HOL := hid hol
        have HBL := hid hbl
        have HR0 := hid hr0
        have HQ1 := hid hq1
        have HI := hid (hI.ext ((Ext.refl wr).drew))
        have HV := hid hv
        have HB := hid hb
        clear hlt1 hown hnot hol hbl hr0 hq1 hI hv hrL
        go_wp2_with fail
        refine wp_region_C (fun W => Below (w.heap.size + 1) (w.alloc (.cells #[.int .i64 i.r, .int .i64 i.n] 28)) W) (by kernel_rfl) ?_
        have hC0 : (fun W => Below (w.heap.size + 1) (w.alloc (.cells #[.int .i64 i.r, .int .i64 i.n] 28)) W) wr.drew := HB.out.trans (((Ext.refl wr).drew).below.mono hsw)
        clear hb c0 c1 c2 c3 c4 c5 c6 c7 c8 c9
        refine takeC (i := 0) (v := ?_) rfl (by kernel_rfl) (by kernel_rfl) (by kernel_rfl) (fun _ _ _ h => h) (by assumption) (Or.inl ⟨?_, ?_⟩) (fun K hK => ?_)
        rotate_left
        · rfl
        · (intro W hW; obtain ⟨c0, c1, c2, c3, c4, c5, c6, c7, c8, c9⟩ := HCF.out W (hbW W hW); go_simp; first | done | with_reducible rfl)
        (try go_simp)
        refine hK _ _ ?_
        clear hK K
        refine takeC (i := 1) (v := ?_) rfl (by kernel_rfl) (by kernel_rfl) (by kernel_rfl) (fun _ _ _ h => h) (by assumption) (Or.inl ⟨?_, ?_⟩) (fun K hK => ?_)
        rotate_left
        · rfl
        · (intro W hW; obtain ⟨c0, c1, c2, c3, c4, c5, c6, c7, c8, c9⟩ := HCF.out W (hbW W hW); go_simp; first | done | with_reducible rfl)
        (try go_simp)
        refine hK _ _ ?_
        clear hK K
        refine takeC (i := 2) (v := ?_) rfl (by kernel_rfl) (by kernel_rfl) (by kernel_rfl) (fun _ _ _ h => h) (by assumption) (Or.inl ⟨?_, ?_⟩) (fun K hK => ?_)
        rotate_left
        · rfl
        · (intro W hW; obtain ⟨c0, c1, c2, c3, c4, c5, c6, c7, c8, c9⟩ := HCF.out W (hbW W hW); go_simp; first | done | with_reducible rfl)
        (try go_simp)
        refine hK _ _ ?_
        clear hK K
        refine takeC (i := 3) (v := ?_) rfl (by kernel_rfl) (by kernel_rfl) (by kernel_rfl) (fun _ _ _ h => h) (by assumption) (Or.inl ⟨?_, ?_⟩) (fun K hK => ?_)
        rotate_left
        · rfl
        · (intro W hW; obtain ⟨c0, c1, c2, c3, c4, c5, c6, c7, c8, c9⟩ := HCF.out W (hbW W hW); go_simp; first | done | with_reducible rfl)
        (try go_simp)
        refine hK _ _ ?_
        clear hK K
        refine takeC (i := 4) (v := ?_) rfl (by kernel_rfl) (by kernel_rfl) (by kernel_rfl) (fun _ _ _ h => h) (by assumption) (Or.inl ⟨?_, ?_⟩) (fun K hK => ?_)
        rotate_left
        · rfl
        · (intro W hW; obtain ⟨c0, c1, c2, c3, c4, c5, c6, c7, c8, c9⟩ := HCF.out W (hbW W hW); go_simp; first | done | with_reducible rfl)
        (try go_simp)
        refine hK _ _ ?_
        clear hK K
        refine takeC (i := 5) (v := ?_) rfl (by kernel_rfl) (by kernel_rfl) (by kernel_rfl) (fun _ _ _ h => h) (by assumption) (Or.inl ⟨?_, ?_⟩) (fun K hK => ?_)
        rotate_left
        · rfl
        · (intro W hW; obtain ⟨c0, c1, c2, c3, c4, c5, c6, c7, c8, c9⟩ := HCF.out W (hbW W hW); go_simp; first | done | with_reducible rfl)
        (try go_simp)
        refine hK _ _ ?_
        clear hK K
        refine takeC (i := 6) (v := ?_) rfl (by kernel_rfl) (by kernel_rfl) (by kernel_rfl) (fun _ _ _ h => h) (by assumption) (Or.inl ⟨?_, ?_⟩) (fun K hK => ?_)
        rotate_left
        · rfl
        · (intro W hW; obtain ⟨c0, c1, c2, c3, c4, c5, c6, c7, c8, c9⟩ := HCF.out W (hbW W hW); go_simp; first | done | with_reducible rfl)
        (try go_simp)
        refine hK _ _ ?_
        clear hK K
        refine takeC (i := 7) (v := ?_) rfl (by kernel_rfl) (by kernel_rfl) (by kernel_rfl) (fun _ _ _ h => h) (by assumption) (Or.inl ⟨?_, ?_⟩) (fun K hK => ?_)
        rotate_left
        · rfl
        · (intro W hW; obtain ⟨c0, c1, c2, c3, c4, c5, c6, c7, c8, c9⟩ := HCF.out W (hbW W hW); go_simp; first | done | with_reducible rfl)
        (try go_simp)
        refine hK _ _ ?_
        clear hK K
        refine takeC (i := 8) (v := ?_) rfl (by kernel_rfl) (by kernel_rfl) (by kernel_rfl) (fun _ _ _ h => h) (by assumption) (Or.inl ⟨?_, ?_⟩) (fun K hK => ?_)
        rotate_left
        · rfl
        · (intro W hW; obtain ⟨c0, c1, c2, c3, c4, c5, c6, c7, c8, c9⟩ := HCF.out W (hbW W hW); go_simp; first | done | with_reducible rfl)
        (try go_simp)
        refine hK _ _ ?_
        clear hK K
        refine takeC (i := 9) (v := ?_) rfl (by kernel_rfl) (by kernel_rfl) (by kernel_rfl) (fun _ _ _ h => h) (by assumption) (Or.inl ⟨?_, ?_⟩) (fun K hK => ?_)
        rotate_left
        · rfl
        · (intro W hW; obtain ⟨c0, c1, c2, c3, c4, c5, c6, c7, c8, c9⟩ := HCF.out W (hbW W hW); go_simp; first | done | with_reducible rfl)
        (try go_simp)
        refine hK _ _ ?_
        clear hK K
        refine takeC (i := 10) (v := ?_) rfl (by kernel_rfl) (by kernel_rfl) (by kernel_rfl) (fun _ _ _ h => h) (by assumption) (Or.inl ⟨?_, ?_⟩) (fun K hK => ?_)
        rotate_left
        · rfl
        · (intro W hW; obtain ⟨c0, c1, c2, c3, c4, c5, c6, c7, c8, c9⟩ := HCF.out W (hbW W hW); go_simp; first | done | with_reducible rfl)
        (try go_simp)
        refine hK _ _ ?_
        clear hK K
        refine callC (k := 11) (by kernel_rfl) rfl ?_ (fun K hK => ?_)
        · rfl
        go_simp
        refine (IxPut_any _ b s j C 1 HI.out HV.out).mono ?_
        rintro e w4 ⟨rfl, s4, hI4, hv4, hla4, hlk4, hbl4, hk4⟩
        have hC1 : (fun W => Below (w.heap.size + 1) (w.alloc (.cells #[.int .i64 i.r, .int .i64 i.n] 28)) W) w4 := Below.trans hC0 (hk4.below hsw (fun g hg => HBL.out g hg))
        have hown4 := HOW.out.same (w' := w4) (fun g hg => hk4.block g (HOL.out g hg).2 (HNOT.out g hg))
        have hs4 : wr.heap.size ≤ w4.heap.size := hk4.size
        have hblk4 : ∀ g ∈ s4.blocks b, w.heap.size + 1 ≤ g := fun g hg => by
          rcases hbl4 g hg with h1 | h1
          · exact HBL.out g h1
          · exact Nat.le_trans hsw h1
        clear hk4 hbl4 hC0
        go_wp2
        refine hK _ _ hC1 ?_
        clear hK K
        refine doneC (by kernel_rfl) ?_
        obtain ⟨c0, c1, c2, c3, c4, c5, c6, c7, c8, c9⟩ := HCF.out w4 (hbW w4 hC1)
        obtain ⟨aM, gM, oM, cM, he4, _, hrL4, _⟩ := hown4.rd encId_len
        cases he4
        have HI4 := hid hI4
        have HV4 := hid hv4
        have HLA4 := hid hla4
        have HBK4 := hid hblk4
        clear hI4 hv4 hla4 hblk4 hown4
        go_wp2_with fail
        refine (RefWithout_any _ aL gM oM cL _ j hrL4 (by omega)).mono ?_
        rintro e w5 ⟨v5, rfl, hown5, hb5⟩
        have hC2 : Below (w.heap.size + 1) (w.alloc (.cells #[.int .i64 i.r, .int .i64 i.n] 28)) w5 := Below.trans hC1 (hb5.mono (by omega))
        have HI5 := hid (HI4.out.below hb5)
        have hol5 := hown5.lt
        have hs5 := hb5.size
        have hlt4 := HI4.out.lt
        have hdl : (delI (allI s.la) j).length ≤ (allI s.la).length := List.length_filter_le _ _
        clear hb5 c0 c1 c2 c3 c4 c5 c6 c7 c8 c9 hrL4
        obtain ⟨c0, c1, c2, c3, c4, c5, c6, c7, c8, c9⟩ := HCF.out w5 (hbW w5 hC2)
        have hlen4 : s4.la.length ≤ n + 1 := by
          have h1 : (adel s.la j).length ≤ s.la.length := List.length_filter_le _ _
          rw [HLA4.out]; simp; omega
        have hlk5 : s4.lk.length ≤ n + 1 := by omega
        have hr4 : ∀ x ∈ s4.la, 0 ≤ x.1.r := fun x hx => by
          rw [HLA4.out] at hx
          rcases List.mem_append.1 hx with hx | hx
          · exact HR0.out x (List.mem_filter.1 hx).1
          · rw [List.mem_singleton] at hx; subst hx; simp only; omega
        have hq4 : ∀ x ∈ s4.la, x.2.2 = 1 := fun x hx => by
          rw [HLA4.out] at hx
          rcases List.mem_append.1 hx with hx | hx
          · exact HQ1.out x (List.mem_filter.1 hx).1
          · rw [List.mem_singleton] at hx; subst hx; rfl
        have HR4 := hid hr4
        have HQ4 := hid hq4
        have HL4 := hid hlt4
        clear hr4 hq4 hC1 hlt4
        by_cases hk0 : C.kind = 0
        · have hk0n : (C.kind != 0) = false := by simp [hk0]
          have HA := hid (show allI s4.la = delI (allI s.la) j by rw [HLA4.out]; exact allI_put0 _ _ _ _ hk0)
          have HO5 := hid hown5
          have HC2 := hid hC2
          clear hown5 hC2
          go_wp2_with fail
          go_roundw
          case rel => exact ⟨n + 1, s4, by omega, by go_num, by rw [HA.out]; exact HO5.out.mono (by omega), (fun g hg hx => by have := (hol5 g hg).1; have := HL4.out g hx; omega), HI5.out, HV4.out, hlk5, hlen4, HR4.out, HQ4.out, HBK4.out, HC2.out⟩
          case measure => simp [intOf]; omega
        · have hk0n : (C.kind != 0) = true := by simp [hk0]
          have HA := hid (show allI s4.la = delI (allI s.la) j ++ [j] by rw [HLA4.out]; exact allI_put1 _ _ _ _ hk0)
          have HC2 := hid hC2
          clear hC2
          go_wp2_with (at_builtin; refine wpList_push elemId rfl _ _ rfl w4.heap.size _ (delI (allI s.la) j) rfl (hown5.alloc _) w5.heap.size 1 j rfl (cells_new _ _ _) (by omega) (by simp; omega) ?_)
          intro v6 w6 hown6 hgrow6
          have hgk : Keeps (fun k => v5.ownBlock = some k) w5 w6 := (((Keeps.refl _ w5).alloc _).grown hgrow6 (fun k _ hk => hk))
          have HI6 := hid (HI5.out.keeps hgk (fun g hg hS => by have := (hol5 g hS).1; have := HL4.out g hg; omega))
          have HB6 := hid (HC2.out.trans (hgk.below (B := w.heap.size + 1) (by omega) (fun k hk => by have := (hol5 k hk).1; omega)))
          have HO6 := hid hown6
          clear hgk hgrow6 hown6 hown5
          go_wp2
          go_roundw
          case rel => exact ⟨n + 1, s4, by omega, by go_num, by rw [HA.out]; exact HO6.out.mono (by omega), (fun g hg hx => by have := (HO6.out.lt g hg).1; have := HL4.out g hx; omega), HI6.out, HV4.out, hlk5, hlen4, HR4.out, HQ4.out, HBK4.out, HB6.out⟩
          case measure => simp [intOf]; omega
    · clear h
      have hE7 : Ext wr ((wr.alloc (.cells #[.int .i64 (-1), .int .i64 0] 28)).alloc (.cells #[.int .i64 6, .int .i64 0, .int .i64 0, .string ⟨#[]⟩, .string ⟨#[]⟩, .int .i64 0] 49)) := ((Ext.refl wr).alloc _).alloc _
      have hsw : w.heap.size + 1 ≤ wr.heap.size := by have := hb.size; simp at this; omega
      have HDI := hid (fun W (hW : Below (w.heap.size + 1) (w.alloc (.cells #[.int .i64 i.r, .int .i64 i.n] 28)) W) => show W.cell? ⟨w.heap.size, 0, none⟩ = some (.int .i64 i.r) ∧ W.cell? ⟨w.heap.size, 1, none⟩ = some (.int .i64 i.n) from ⟨by rw [hW.cell (by simp)]; simp, by rw [hW.cell (by simp)]; simp⟩)
      have HWN : Hid (∀ W, Below ((wr.alloc (.cells #[.int .i64 (-1), .int .i64 0] 28)).alloc (.cells #[.int .i64 6, .int .i64 0, .int .i64 0, .string ⟨#[]⟩, .string ⟨#[]⟩, .int .i64 0] 49)).heap.size ((wr.alloc (.cells #[.int .i64 (-1), .int .i64 0] 28)).alloc (.cells #[.int .i64 6, .int .i64 0, .int .i64 0, .string ⟨#[]⟩, .string ⟨#[]⟩, .int .i64 0] 49)) W → W.cell? ⟨wr.heap.size, 0, none⟩ = some (.int .i64 (-1)) ∧ W.cell? ⟨wr.heap.size, 1, none⟩ = some (.int .i64 0) ∧ W.cell? ⟨wr.heap.size + 1, 0, none⟩ = some (.int .i64 6) ∧ W.cell? ⟨wr.heap.size + 1, 1, none⟩ = some (.int .i64 0) ∧ W.cell? ⟨wr.heap.size + 1, 2, none⟩ = some (.int .i64 0) ∧ W.cell? ⟨wr.heap.size + 1, 3, none⟩ = some (.string ⟨#[]⟩) ∧ W.cell? ⟨wr.heap.size + 1, 4, none⟩ = some (.string ⟨#[]⟩) ∧ W.cell? ⟨wr.heap.size + 1, 5, none⟩ = some (.int .i64 0)) := fun W hW => ⟨by rw [hW.cell (p := ⟨wr.heap.size, 0, none⟩) (by first | (simp; done) | (simp; omega))]; simp, by rw [hW.cell (p := ⟨wr.heap.size, 1, none⟩) (by first | (simp; done) | (simp; omega))]; simp, by rw [hW.cell (p := ⟨wr.heap.size + 1, 0, none⟩) (by first | (simp; done) | (simp; omega))]; simp, by rw [hW.cell (p := ⟨wr.heap.size + 1, 1, none⟩) (by first | (simp; done) | (simp; omega))]; simp, by rw [hW.cell (p := ⟨wr.heap.size + 1, 2, none⟩) (by first | (simp; done) | (simp; omega))]; simp, by rw [hW.cell (p := ⟨wr.heap.size + 1, 3, none⟩) (by first | (simp; done) | (simp; omega))]; simp, by rw [hW.cell (p := ⟨wr.heap.size + 1, 4, none⟩) (by first | (simp; done) | (simp; omega))]; simp, by rw [hW.cell (p := ⟨wr.heap.size + 1, 5, none⟩) (by first | (simp; done) | (simp; omega))]; simp⟩
      have hI7 := hI.ext hE7
      have hrL7 := hrL.below hE7.below
      have hb7 : Below (w.heap.size + 1) (w.alloc (.cells #[.int .i64 i.r, .int .i64 i.n] 28)) ((wr.alloc (.cells #[.int .i64 (-1), .int .i64 0] 28)).alloc (.cells #[.int .i64 6, .int .i64 0, .int .i64 0, .string ⟨#[]⟩, .string ⟨#[]⟩, .int .i64 0] 49)) := hb.trans (hE7.below.mono hsw)
      have HMW := hid (wall_met s.la hr0)
      have HMZ := hid (zero_met s.la)
      have HMD := hid (drop_met s.la i hr0)
      have hDP : ∀ (t : IxS) (W : World), Ix W b t → Inv t → t.lk.length ≤ 200 → t.la.length ≤ 200 → ∀ (x : Cmd) (y : Id), Calls Try.prog 29 #[.pointer (some ⟨b, 0, none⟩), .agg #[.int .i64 x.kind, .int .i64 x.client, .int .i64 x.seq, .string x.key, .string x.val, .int .i64 x.rev], .agg #[.int .i64 y.r, .int .i64 y.n]] W fun e w' => ∃ v, e = .returned v ∧ Rd encId 2 w' v (setR (metI t.la x y)) ∧ Below W.heap.size W w' := fun t W hI hv h1 h2 x y => by
        refine (Deps_any W b t x y hI hv h1 h2).mono ?_
        rintro e w' ⟨v, D, rfl, hown, hD, hb⟩
        rw [deps_eq hI x y hD] at hown
        exact ⟨v, rfl, hown.rd encId_len, hb⟩
      have HDP := hid hDP
      have HI := hid hI7
      have HV := hid hv
      have HRL := hid hrL7
      have HB7 := hid hb7
      have hln2 : s.la.length ≤ 60 := by omega
      have hkn2 : s.lk.length ≤ 60 := by omega
      have HBL := hid hbl
      have HOL := hid hol
      have HNOT := hid hnot
      have HOWN := hid hown
      have hlt7 := hI.lt
      have HLT := hid hlt7
      have hsl : (setR (allI s.la)).length ≤ 60 := by
        have h1 : (setR (allI s.la)).length ≤ 0 + (allI s.la).length := setR_len _ []
        omega
      clear hI7 hv hrL7 hb7 hDP hb hI hown hrL hr0 hq1 hbl hol hnot hlt7 hbW
      go_wp2_with fail
      refine (HDP.out s _ HI.out HV.out (by omega) (by omega) cW idN).mono ?_
      rintro e w8 ⟨v8, rfl, hR8, hb8⟩
      obtain ⟨a8, g8, o8, k8, rfl, _, hr8, _⟩ := hR8
      rw [HMW.out] at hr8
      have hC8 : Below ((wr.alloc (.cells #[.int .i64 (-1), .int .i64 0] 28)).alloc (.cells #[.int .i64 6, .int .i64 0, .int .i64 0, .string ⟨#[]⟩, .string ⟨#[]⟩, .int .i64 0] 49)).heap.size ((wr.alloc (.cells #[.int .i64 (-1), .int .i64 0] 28)).alloc (.cells #[.int .i64 6, .int .i64 0, .int .i64 0, .string ⟨#[]⟩, .string ⟨#[]⟩, .int .i64 0] 49)) w8 := hb8
      clear hb8
      obtain ⟨n0, n1, m0, m1, m2, m3, m4, m5⟩ := HWN.out w8 hC8
      rw [HMW.out]
      go_wp2_with fail
      refine (RefSetI_any _ aL gL oL cL (allI s.la) (HRL.out.below hC8) (by omega)).mono ?_
      rintro e w9 ⟨v9, rfl, hown9, hb9⟩
      obtain ⟨a9, g9, o9, k9, rfl, _, hr9, _⟩ := hown9.rd encId_len
      have hC9 : Below ((wr.alloc (.cells #[.int .i64 (-1), .int .i64 0] 28)).alloc (.cells #[.int .i64 6, .int .i64 0, .int .i64 0, .string ⟨#[]⟩, .string ⟨#[]⟩, .int .i64 0] 49)).heap.size ((wr.alloc (.cells #[.int .i64 (-1), .int .i64 0] 28)).alloc (.cells #[.int .i64 6, .int .i64 0, .int .i64 0, .string ⟨#[]⟩, .string ⟨#[]⟩, .int .i64 0] 49)) w9 := hC8.trans (hb9.mono hC8.size)
      replace hr8 := hr8.below hb9
      clear hb9 hown9 hC8 n0 n1 m0 m1 m2 m3 m4 m5
      obtain ⟨n0, n1, m0, m1, m2, m3, m4, m5⟩ := HWN.out w9 hC9
      go_wp2_with fail
      refine (RefEqual_any _ a8 g8 o8 k8 _ a9 g9 o9 k9 _ hr8 hr9 (by omega) (by omega)).mono ?_
      rintro e w10 ⟨rfl, hE10⟩
      have hC10 : Below ((wr.alloc (.cells #[.int .i64 (-1), .int .i64 0] 28)).alloc (.cells #[.int .i64 6, .int .i64 0, .int .i64 0, .string ⟨#[]⟩, .string ⟨#[]⟩, .int .i64 0] 49)).heap.size ((wr.alloc (.cells #[.int .i64 (-1), .int .i64 0] 28)).alloc (.cells #[.int .i64 6, .int .i64 0, .int .i64 0, .string ⟨#[]⟩, .string ⟨#[]⟩, .int .i64 0] 49)) w10 := hC9.trans (hE10.below.mono hC9.size)
      clear hE10 hC9 hr8 hr9 n0 n1 m0 m1 m2 m3 m4 m5
      obtain ⟨n0, n1, m0, m1, m2, m3, m4, m5⟩ := HWN.out w10 hC10
      rw [decide_eq_true rfl]
      go_wp2_with fail
      refine (HDP.out s _ (HI.out.below hC10) HV.out (by omega) (by omega) cZ idN).mono ?_
      rintro e w11 ⟨v11, rfl, hR11, hb11⟩
      rw [HMZ.out] at hR11
      obtain ⟨a11, g11, o11, k11, rfl, _, _, _⟩ := hR11
      have hC11 : Below ((wr.alloc (.cells #[.int .i64 (-1), .int .i64 0] 28)).alloc (.cells #[.int .i64 6, .int .i64 0, .int .i64 0, .string ⟨#[]⟩, .string ⟨#[]⟩, .int .i64 0] 49)).heap.size ((wr.alloc (.cells #[.int .i64 (-1), .int .i64 0] 28)).alloc (.cells #[.int .i64 6, .int .i64 0, .int .i64 0, .string ⟨#[]⟩, .string ⟨#[]⟩, .int .i64 0] 49)) w11 := hC10.trans (hb11.mono hC10.size)
      clear hb11 hC10 n0 n1 m0 m1 m2 m3 m4 m5
      obtain ⟨d0, d1⟩ := HDI.out w11 (HB7.out.trans (hC11.mono (by simp; omega)))
      rw [show (setR ([] : List Id)).length = 0 from rfl]
      go_wp2_with fail
      refine (IxDrop_any _ b s i (HI.out.below hC11) HV.out).mono ?_
      rintro e w12 ⟨rfl, s5, hI5, hv5, hla5, hbe5, hlk5, hk5⟩
      have hs11 := hC11.size
      have hown12 := ((HOWN.out.ext hE7).below hC11).same (w' := w12) (fun g hg => hk5.block g (by have := (HOL.out g hg).2; simp at hs11; omega) (HNOT.out g hg))
      obtain ⟨aM, gM, oM, cM, he12, _, hL12, _⟩ := hown12.rd encId_len
      cases he12
      clear hown12
      have hb12 : Below (w.heap.size + 1) (w.alloc (.cells #[.int .i64 i.r, .int .i64 i.n] 28)) w12 := (HB7.out.trans (hC11.mono (by simp; omega))).trans (hk5.below (by simp at hs11; omega) (fun g hg => HBL.out g hg))
      have HWN2 : Hid (∀ W, Below w12.heap.size w12 W → W.cell? ⟨wr.heap.size, 0, none⟩ = some (.int .i64 (-1)) ∧ W.cell? ⟨wr.heap.size, 1, none⟩ = some (.int .i64 0) ∧ W.cell? ⟨wr.heap.size + 1, 0, none⟩ = some (.int .i64 6) ∧ W.cell? ⟨wr.heap.size + 1, 1, none⟩ = some (.int .i64 0) ∧ W.cell? ⟨wr.heap.size + 1, 2, none⟩ = some (.int .i64 0) ∧ W.cell? ⟨wr.heap.size + 1, 3, none⟩ = some (.string ⟨#[]⟩) ∧ W.cell? ⟨wr.heap.size + 1, 4, none⟩ = some (.string ⟨#[]⟩) ∧ W.cell? ⟨wr.heap.size + 1, 5, none⟩ = some (.int .i64 0)) := fun W hW => by
        obtain ⟨n0, n1, m0, m1, m2, m3, m4, m5⟩ := HWN.out w11 hC11
        have hfr : ∀ k, k = wr.heap.size ∨ k = wr.heap.size + 1 → k ∉ s.blocks b := fun k hk hx => by have := HLT.out k hx; omega
        have hz : wr.heap.size + 1 < w12.heap.size := by have := hk5.size; simp at hs11; omega
        exact ⟨by rw [hW.cell (p := ⟨wr.heap.size, 0, none⟩) (by simp only; omega)]; exact hk5.cell (hfr _ (by simp)) n0, by rw [hW.cell (p := ⟨wr.heap.size, 1, none⟩) (by simp only; omega)]; exact hk5.cell (hfr _ (by simp)) n1, by rw [hW.cell (p := ⟨wr.heap.size + 1, 0, none⟩) (by simp only; omega)]; exact hk5.cell (hfr _ (by simp)) m0, by rw [hW.cell (p := ⟨wr.heap.size + 1, 1, none⟩) (by simp only; omega)]; exact hk5.cell (hfr _ (by simp)) m1, by rw [hW.cell (p := ⟨wr.heap.size + 1, 2, none⟩) (by simp only; omega)]; exact hk5.cell (hfr _ (by simp)) m2, by rw [hW.cell (p := ⟨wr.heap.size + 1, 3, none⟩) (by simp only; omega)]; exact hk5.cell (hfr _ (by simp)) m3, by rw [hW.cell (p := ⟨wr.heap.size + 1, 4, none⟩) (by simp only; omega)]; exact hk5.cell (hfr _ (by simp)) m4, by rw [hW.cell (p := ⟨wr.heap.size + 1, 5, none⟩) (by simp only; omega)]; exact hk5.cell (hfr _ (by simp)) m5⟩
      have HDI2 : Hid (∀ W, Below w12.heap.size w12 W → W.cell? ⟨w.heap.size, 0, none⟩ = some (.int .i64 i.r) ∧ W.cell? ⟨w.heap.size, 1, none⟩ = some (.int .i64 i.n)) := fun W hW => HDI.out W (hb12.trans (hW.mono (by have := hb12.size; simp at this; omega)))
      have HMD2 := hid (show setR (metI s5.la cW idN) = delI (setR (allI s.la)) i by rw [hla5]; exact HMD.out)
      have hln5 : s5.la.length ≤ 200 := by
        have h1 : (adel s.la i).length ≤ s.la.length := List.length_filter_le _ _
        rw [hla5]; omega
      have hkn5 : s5.lk.length ≤ 200 := by rw [hlk5]; omega
      have hs12 := hk5.size
      clear hla5 hbe5 hlk5 hk5 hC11 d0 d1
      have HI5 := hid hI5
      have HV5 := hid hv5
      have HL12 := hid hL12
      have HB12 := hid hb12
      clear hI5 hv5 hL12 hb12
      have hdl : (delI (setR (allI s.la)) i).length ≤ (setR (allI s.la)).length := List.length_filter_le _ _
      go_wp2_with fail
      refine wp_region_C (fun W => Below w12.heap.size w12 W) (by kernel_rfl) ?_
      have hC0 : (fun W => Below w12.heap.size w12 W) w12.drew := ((Ext.refl w12).drew).below
      refine takeC (i := 0) (v := ?_) rfl (by kernel_rfl) (by kernel_rfl) (by kernel_rfl) (fun _ _ _ h => h) (by assumption) (Or.inl ⟨?_, ?_⟩) (fun K hK => ?_)
      rotate_left
      · rfl
      · (intro W hW; (obtain ⟨n0, n1, m0, m1, m2, m3, m4, m5⟩ := HWN2.out W hW; obtain ⟨d0, d1⟩ := HDI2.out W hW); go_simp; first | done | with_reducible rfl)
      (try go_simp)
      refine hK _ _ ?_
      clear hK K
      refine takeC (i := 1) (v := ?_) rfl (by kernel_rfl) (by kernel_rfl) (by kernel_rfl) (fun _ _ _ h => h) (by assumption) (Or.inl ⟨?_, ?_⟩) (fun K hK => ?_)
      rotate_left
      · rfl
      · (intro W hW; (obtain ⟨n0, n1, m0, m1, m2, m3, m4, m5⟩ := HWN2.out W hW; obtain ⟨d0, d1⟩ := HDI2.out W hW); go_simp; first | done | with_reducible rfl)
      (try go_simp)
      refine hK _ _ ?_
      clear hK K
      refine takeC (i := 2) (v := ?_) rfl (by kernel_rfl) (by kernel_rfl) (by kernel_rfl) (fun _ _ _ h => h) (by assumption) (Or.inl ⟨?_, ?_⟩) (fun K hK => ?_)
      rotate_left
      · rfl
      · (intro W hW; (obtain ⟨n0, n1, m0, m1, m2, m3, m4, m5⟩ := HWN2.out W hW; obtain ⟨d0, d1⟩ := HDI2.out W hW); go_simp; first | done | with_reducible rfl)
      (try go_simp)
      refine hK _ _ ?_
      clear hK K
      refine takeC (i := 4) (v := ?_) rfl (by kernel_rfl) (by kernel_rfl) (by kernel_rfl) (fun _ _ _ h => h) (by assumption) (Or.inl ⟨?_, ?_⟩) (fun K hK => ?_)
      rotate_left
      · rfl
      · (intro W hW; (obtain ⟨n0, n1, m0, m1, m2, m3, m4, m5⟩ := HWN2.out W hW; obtain ⟨d0, d1⟩ := HDI2.out W hW); go_simp; first | done | with_reducible rfl)
      (try go_simp)
      refine hK _ _ ?_
      clear hK K
      refine takeC (i := 6) (v := ?_) rfl (by kernel_rfl) (by kernel_rfl) (by kernel_rfl) (fun _ _ _ h => h) (by assumption) (Or.inl ⟨?_, ?_⟩) (fun K hK => ?_)
      rotate_left
      · rfl
      · (intro W hW; (obtain ⟨n0, n1, m0, m1, m2, m3, m4, m5⟩ := HWN2.out W hW; obtain ⟨d0, d1⟩ := HDI2.out W hW); go_simp; first | done | with_reducible rfl)
      (try go_simp)
      refine hK _ _ ?_
      clear hK K
      refine callC (k := 3) (by kernel_rfl) rfl ?_ (fun K hK => ?_)
      · rfl
      go_simp
      refine (HDP.out s5 _ (HI5.out.below hC0) HV5.out hkn5 hln5 cW idN).mono ?_
      rintro e w13 ⟨v13, rfl, hR13, hb13⟩
      rw [HMD2.out] at hR13
      obtain ⟨a13, g13, o13, k13, rfl, _, hr13, _⟩ := hR13
      have hC1 : (fun W => Below w12.heap.size w12 W) w13 := Below.trans hC0 (hb13.mono (Nat.le_of_eq rfl))
      clear hb13 hC0
      go_wp2
      refine hK _ _ hC1 ?_
      clear hK K
      refine callC (k := 5) (by kernel_rfl) rfl ?_ (fun K hK => ?_)
      · rfl
      go_simp
      refine (RefSetI_any _ aL gM oM cL (allI s.la) (HL12.out.below hC1) (by omega)).mono ?_
      rintro e w14 ⟨v14, rfl, hown14, hb14⟩
      obtain ⟨a14, g14, o14, k14, rfl, _, hr14, _⟩ := hown14.rd encId_len
      replace hr13 := hr13.below hb14
      have hC2 : (fun W => Below w12.heap.size w12 W) w14 := Below.trans hC1 (hb14.mono (Below.size hC1))
      clear hb14 hC1 hown14
      go_wp2
      refine hK _ _ hC2 ?_
      clear hK K
      refine callC (k := 7) (by kernel_rfl) rfl ?_ (fun K hK => ?_)
      · rfl
      go_simp
      refine (RefWithout_any _ a14 g14 o14 k14 _ i hr14 (by omega)).mono ?_
      rintro e w15 ⟨v15, rfl, hown15, hb15⟩
      obtain ⟨a15, g15, o15, k15, rfl, _, hr15, _⟩ := hown15.rd encId_len
      replace hr13 := hr13.below hb15
      have hC3 : (fun W => Below w12.heap.size w12 W) w15 := Below.trans hC2 (hb15.mono (Below.size hC2))
      clear hb15 hC2 hown15 hr14
      go_wp2
      refine hK _ _ hC3 ?_
      clear hK K
      refine callC (k := 8) (by kernel_rfl) rfl ?_ (fun K hK => ?_)
      · rfl
      go_simp
      refine (RefEqual_any _ a13 g13 o13 k13 _ a15 g15 o15 k15 _ hr13 hr15 (by omega) (by omega)).mono ?_
      rintro e w16 ⟨rfl, hE16⟩
      have hC4 : (fun W => Below w12.heap.size w12 W) w16 := Below.trans hC3 (hE16.below.mono (Below.size hC3))
      clear hE16 hC3 hr13 hr15
      rw [decide_eq_true rfl]
      go_wp2
      refine hK _ _ hC4 ?_
      clear hK K
      refine takeC (i := 9) (v := ?_) rfl (by kernel_rfl) (by kernel_rfl) (by kernel_rfl) (fun _ _ _ h => h) (by assumption) (Or.inl ⟨?_, ?_⟩) (fun K hK => ?_)
      rotate_left
      · rfl
      · (intro W hW; (obtain ⟨n0, n1, m0, m1, m2, m3, m4, m5⟩ := HWN2.out W hW; obtain ⟨d0, d1⟩ := HDI2.out W hW); go_simp; first | done | with_reducible rfl)
      (try go_simp)
      refine hK _ _ ?_
      clear hK K
      refine callC (k := 10) (by kernel_rfl) rfl ?_ (fun K hK => ?_)
      · rfl
      go_simp
      refine (IndexAwake _).mono ?_
      rintro e w17 ⟨rfl, hb17⟩
      have hC5 : (fun W => Below w12.heap.size w12 W) w17 := Below.trans hC4 (hb17.mono (Below.size hC4))
      clear hb17 hC4
      go_wp2
      refine hK _ _ hC5 ?_
      clear hK K
      refine takeC (i := 11) (v := ?_) rfl (by kernel_rfl) (by kernel_rfl) (by kernel_rfl) (fun _ _ _ h => h) (by assumption) (Or.inl ⟨?_, ?_⟩) (fun K hK => ?_)
      rotate_left
      · rfl
      · (intro W hW; (obtain ⟨n0, n1, m0, m1, m2, m3, m4, m5⟩ := HWN2.out W hW; obtain ⟨d0, d1⟩ := HDI2.out W hW); go_simp; first | done | with_reducible rfl)
      (try go_simp)
      refine hK _ _ ?_
      clear hK K
      refine takeC (i := 12) (v := ?_) rfl (by kernel_rfl) (by kernel_rfl) (by kernel_rfl) (fun _ _ _ h => h) (by assumption) (Or.inl ⟨?_, ?_⟩) (fun K hK => ?_)
      rotate_left
      · rfl
      · (intro W hW; (obtain ⟨n0, n1, m0, m1, m2, m3, m4, m5⟩ := HWN2.out W hW; obtain ⟨d0, d1⟩ := HDI2.out W hW); go_simp; first | done | with_reducible rfl)
      (try go_simp)
      refine hK _ _ ?_
      clear hK K
      refine doneC (by kernel_rfl) ?_
      have HF := hid (show Below w.heap.size w w17 from HE.out.below.trans ((HB12.out.mono (by omega)).trans (Below.mono hC5 (by have := HB12.out.size; simp at this; omega))))
      clear hC5
      go_wp2
      go_ret
      exact ⟨rfl, HF.out⟩
theorem IndexAll_any (w : World) (a : Option Addr) (g off cap : Nat) (l : List IAct) (i : Id) (h : RdS encA 10 w a g off l) (hl : l.length ≤ cap) (hcm : cap ≤ maxLen) :
    Calls Try.prog 6 #[.slice a l.length cap, .agg #[.int .i64 i.r, .int .i64 i.n]] w fun e w' => e = .returned (.bool true) ∧ Below w.heap.size w w' := by
  cases hg : greatL l
  case true => exact IA_great w a g off cap l i h hl hcm hg
  case false => exact IA_small w a g off cap l i h hl hcm hg
end Go.Proofs.Ytlepfohhfngndaa
