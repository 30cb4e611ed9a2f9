/- The log's example; log.Open, Add, Flush. -/
import Derived.Test.YtopabknlgmihpaaLogF
import Derived.Test.YtopabknlgmihpaaDiskLaw
namespace Go.Proofs.Ytopabknlgmihpaa
open Go Go.RowKit Go.MapKept Go.ChangeMaps Go.Maps

theorem DkPost.from_below {w w1 : World} {p : Nat} {s : DkS} {r : AD × Int} (hE : Below w.heap.size w w1) {x : Int} {w' : World} (h : DkPost w1 p s r x w') : DkPost w p s r x w' := by
  obtain ⟨s', hD, ha, hx, hb, hk⟩ := h
  exact ⟨s', hD, ha, hx, fun g hg => (hb g hg).imp id (fun h1 => Nat.le_trans hE.size h1), (below_keeps (S := s.Blk p) hE).trans hk (fun _ _ h => h)⟩
theorem DkPost.kp {w w' : World} {p : Nat} {s : DkS} {r : AD × Int} {x : Int} (h : DkPost w p s r x w') : Keeps (s.Blk p) w w' := by
  obtain ⟨_, _, _, _, _, k⟩ := h
  exact k
theorem OkBS.keeps {S : Nat → Prop} {w w' : World} {x : BS} (h : OkBS w x) (k : Keeps S w w') (hS : x.bs ≠ [] → ¬ S x.g) : OkBS w' x := ⟨h.r.keeps k hS, h.c, h.m⟩
theorem results_tmp3 {fn : Func} {t u v : Tmp} (h : fn.results = #[.tmp t, .tmp u, .tmp v]) (tmps : Array Value) (P : Program) (w : World) :
    (results fn tmps).run P w = .ok (.tuple #[tmps.getD t undef, tmps.getD u undef, tmps.getD v undef]) w := by
  simp [results, h]
/-- A file with one record that is empty. -/
theorem file_one : FileB (formB []) [[]] := ⟨⟨[], by simp, Or.inl rfl⟩, (fun p hp => by simp at hp; subst hp; simp), by rw [formB_len]; simp, by simp⟩
theorem formB_nil : ∃ r, formB [] = 0 :: r := ⟨fourB (crcI [0]) ++ [], rfl⟩
set_option maxRecDepth 100000 in
set_option maxHeartbeats 3200000 in
theorem LogAwake_any (w : World) : Calls Try.prog 29 #[] w fun e w' => e = .returned (.bool true) ∧ Below w.heap.size w w' := by
  have HF := hid (Form_any w ⟨none, 0, 0, 0, []⟩ ⟨⟨fun h => absurd rfl h, fun h => absurd rfl h, RdAt.nil⟩, Nat.le_refl _, Nat.zero_le _⟩ (by simp))
  go_enter Try.func29, Try.ntmps29
  go_wp2_with fail
  refine HF.out.mono ?_
  rintro e w1 ⟨v1, rfl, ho1, _, hb1⟩
  obtain ⟨a, g, o, c, rfl, hc, hr, _⟩ := ho1.rd
  have hm : c ≤ maxLen := by
    rcases ho1 with ⟨e, _⟩ | ⟨g', cap, cur, e, _, _, hm, _⟩
    · simp only [Value.slice.injEq] at e; rw [e.2.2]; unfold maxLen; omega
    · simp only [Value.slice.injEq] at e; rw [e.2.2]; exact hm
  have hs := Scan_any w1 a g o c (formB []) [[]] hr file_one hc hm
  have hl : (formB []).length = 5 := formB_len []
  have hof : offB [[]] 1 = 5 := by unfold offB; simp [formB_len]
  simp only [List.length_cons, List.length_nil, Nat.zero_add] at hs
  obtain ⟨r, hB0⟩ := formB_nil
  obtain ⟨B, hB⟩ : ∃ B, B = formB [] := ⟨_, rfl⟩
  rw [← hB] at hs hl hr hB0 hc
  have hi : ∀ W, (Instr.indexAt 22 (.slice a B.length c) (.int .i64 0)).run Try.prog W = .ok (.pointer (some ⟨g, o, none⟩)) W := fun W => by have := indexB hr (i := 0) (by omega) c W; simpa using this
  have h0 := RdB hr (k := 0) (x := 0) (by rw [hB0]; rfl)
  simp only [Nat.add_zero] at h0
  have hsame := fun W (hW : Below w1.heap.size w1 W) a' g' off' cap' (m : List UInt8) (h' : RdS encB 1 W a' g' off' m) (e : B = m) => same_true W a g o c B a' g' off' cap' m (hr.below hW) h' (by omega) (by rw [← e, hl]; omega) e
  rw [← hB]
  rw [hl] at hs hi hsame ⊢
  rw [hof] at hs
  have HS := hid hs
  have HSM := hid hsame
  have HB := hid hB
  have HB1 := hid hb1
  have HR := hid hr
  have HL := hid hl
  have hglt := hr.lt (by intro e0; rw [e0] at hl; simp at hl)
  clear hs hsame hB hb1 hr hB0 ho1 hl hof hc hm HF
  go_wp2_with fail
  refine HS.out.mono ?_
  rintro e w2 ⟨v2, l, rfl, hrd, hok, hmap, hb2⟩
  obtain ⟨a2, g2, o2, c2, hv2, hrow2⟩ := hrd.rd encBS_len
  have hl2 : l.length = 1 := by have := congrArg List.length hmap; simpa using this
  rw [hl2] at hv2
  have h02 : w2.cell? ⟨g, o, none⟩ = some (.int .u8 (0 : UInt8).toNat) := by rw [hb2.cell (p := ⟨g, o, none⟩) hglt]; exact h0
  subst hv2
  have HB2 := hid hb2
  clear hrow2 hok hmap hl2 hb2 h0 HS
  go_wp2_with fail
  refine (RefForm0_any w2).mono ?_
  rintro e w3 ⟨v3, rfl, ho3, hb3⟩
  have hb13 := below_trans' HB2.out hb3
  obtain ⟨a3, g3, o3, c3, rfl, hc3, hr3, _⟩ := ho3.rd
  have hq := HSM.out w3 hb13 a3 g3 o3 c3 (formB []) hr3 HB.out
  have hl3 : (formB []).length = 5 := formB_len []
  rw [hl3] at hq
  rw [hl3]
  have HQ := hid hq
  have HB13 := hid (below_trans' HB1.out hb13)
  clear hq hr3 hc3 hb13 hb3 ho3 hl3 h02
  go_wp2_with fail
  refine HQ.out.mono ?_
  rintro e w4 ⟨rfl, hE⟩
  have HBF := hid (below_trans' HB13.out hE.below)
  clear hE
  go_wp2
  go_ret
  exact ⟨rfl, HBF.out⟩
/-- A log. -/
def LogAt (w : World) (lg p : Nat) (n : SKey) : Prop := w.heap[lg]? = some (.cells #[.pointer (some ⟨p, 0, none⟩), .string n.1] 93 (0, 0))
theorem LogAt.cells {w : World} {lg p : Nat} {n : SKey} (h : LogAt w lg p n) : w.cell? ⟨lg, 0, none⟩ = some (.pointer (some ⟨p, 0, none⟩)) ∧ w.cell? ⟨lg, 1, none⟩ = some (.string n.1) := by
  unfold LogAt at h
  constructor <;> simp [World.cell?, h]
theorem LogAt.keeps {w w' : World} {lg p : Nat} {n : SKey} (h : LogAt w lg p n) {S : Nat → Prop} (k : Keeps S w w') (hS : ¬ S lg) : LogAt w' lg p n := (k.block lg (Array.getElem?_eq_some_iff.1 h).1 hS).trans h
theorem LogAt.below {w w' : World} {lg p : Nat} {n : SKey} (h : LogAt w lg p n) (k : Below w.heap.size w w') : LogAt w' lg p n := (k.block lg (Array.getElem?_eq_some_iff.1 h).1).trans h
theorem LogAt.lt {w : World} {lg p : Nat} {n : SKey} (h : LogAt w lg p n) : lg < w.heap.size := (Array.getElem?_eq_some_iff.1 h).1
set_option maxRecDepth 100000 in
set_option maxHeartbeats 3200000 in
theorem LogAdd_any (w : World) (lg p : Nat) (s : DkS) (n : SKey) (x : BS) (hL : LogAt w lg p n) (hLb : ¬ s.Blk p lg) (hD : Dk w p s) (hG : s.abs.Good) (hO : OkBS w x) (hl : x.bs.length ≤ 200) :
    Calls Try.prog 31 #[.pointer (some ⟨lg, 0, none⟩), .slice x.a x.bs.length x.c] w (IntR (DkPost w p s (deedA (appendA n (formB x.bs)) s.abs))) := by
  have HF := hid (Form_any w x hO hl)
  have HL := hid hL
  have HD := hid hD
  have HG := hid hG
  have HLE := hid hl
  clear hL hD hG hO hl
  go_enter Try.func31, Try.ntmps31
  go_wp2_with fail
  refine HF.out.mono ?_
  rintro e w1 ⟨v1, rfl, ho1, hf1, hb1⟩
  obtain ⟨a, g, o, c, rfl, hc, hr, _⟩ := ho1.rd
  have hbs : formB x.bs ≠ [] → ¬ s.Blk p g := fun hne hx => by
    have h1 := hr.some hne
    have h2 := hf1 g (by rw [h1]; rfl)
    have := HD.out.lt g hx
    omega
  have hL1 := HL.out.below hb1
  have HD1 := hid (HD.out.below hb1)
  have HR := hid hr
  have HBS := hid hbs
  have HB1 := hid hb1
  obtain ⟨c0, c1⟩ := hL1.cells
  have HC := hid c0
  have HC1 := hid c1
  have HLEN := hid (show (formB x.bs).length ≤ 1073741824 by rw [formB_len]; have := HLE.out; omega)
  clear hr hbs hb1 ho1 hc hf1 hL1 HF HLE c0 c1
  generalize formB x.bs = B at *
  go_wp2
  refine wp_region_C (fun W => (W.cell? ⟨lg, 0, none⟩ = some (.pointer (some ⟨p, 0, none⟩)) ∧ W.cell? ⟨lg, 1, none⟩ = some (.string n.1)) ∧ (W = w1.drew ∨ True)) (by kernel_rfl) ?_
  have hC0 : (fun W => (W.cell? ⟨lg, 0, none⟩ = some (.pointer (some ⟨p, 0, none⟩)) ∧ W.cell? ⟨lg, 1, none⟩ = some (.string n.1)) ∧ (W = w1.drew ∨ True)) w1.drew := ⟨⟨HC.out, HC1.out⟩, Or.inl rfl⟩
  refine takeC (i := 0) (v := ?_) rfl (by kernel_rfl) (by kernel_rfl) (by kernel_rfl) (fun _ _ _ h => h) (by assumption) (Or.inl ⟨?_, ?_⟩) (fun K hK => ?_)
  rotate_left
  · rfl
  · (intro W hW; (obtain ⟨⟨d0, d1⟩, _⟩ := hW); go_simp; first | done | with_reducible rfl)
  (try go_simp)
  refine hK _ _ ?_
  clear hK K
  refine takeC (i := 1) (v := ?_) rfl (by kernel_rfl) (by kernel_rfl) (by kernel_rfl) (fun _ _ _ h => h) (by assumption) (Or.inl ⟨?_, ?_⟩) (fun K hK => ?_)
  rotate_left
  · rfl
  · (intro W hW; (obtain ⟨⟨d0, d1⟩, _⟩ := hW); go_simp; first | done | with_reducible rfl)
  (try go_simp)
  refine hK _ _ ?_
  clear hK K
  refine takeC (i := 2) (v := ?_) rfl (by kernel_rfl) (by kernel_rfl) (by kernel_rfl) (fun _ _ _ h => h) (by assumption) (Or.inl ⟨?_, ?_⟩) (fun K hK => ?_)
  rotate_left
  · rfl
  · (intro W hW; (obtain ⟨⟨d0, d1⟩, _⟩ := hW); go_simp; first | done | with_reducible rfl)
  (try go_simp)
  refine hK _ _ ?_
  clear hK K
  refine takeC (i := 3) (v := ?_) rfl (by kernel_rfl) (by kernel_rfl) (by kernel_rfl) (fun _ _ _ h => h) (by assumption) (Or.inl ⟨?_, ?_⟩) (fun K hK => ?_)
  rotate_left
  · rfl
  · (intro W hW; (obtain ⟨⟨d0, d1⟩, _⟩ := hW); go_simp; first | done | with_reducible rfl)
  (try go_simp)
  refine hK _ _ ?_
  clear hK K
  refine takeC (i := 4) (v := ?_) rfl (by kernel_rfl) (by kernel_rfl) (by kernel_rfl) (fun _ _ _ h => h) (by assumption) (Or.inl ⟨?_, ?_⟩) (fun K hK => ?_)
  rotate_left
  · rfl
  · (intro W hW; (obtain ⟨⟨d0, d1⟩, _⟩ := hW); go_simp; first | done | with_reducible rfl)
  (try go_simp)
  refine hK _ _ ?_
  clear hK K
  refine takeC (i := 5) (v := ?_) rfl (by kernel_rfl) (by kernel_rfl) (by kernel_rfl) (fun _ _ _ h => h) (by assumption) (Or.inl ⟨?_, ?_⟩) (fun K hK => ?_)
  rotate_left
  · rfl
  · (intro W hW; (obtain ⟨⟨d0, d1⟩, _⟩ := hW); go_simp; first | done | with_reducible rfl)
  (try go_simp)
  refine hK _ _ ?_
  clear hK K
  refine takeC (i := 6) (v := ?_) rfl (by kernel_rfl) (by kernel_rfl) (by kernel_rfl) (fun _ _ _ h => h) (by assumption) (Or.inl ⟨?_, ?_⟩) (fun K hK => ?_)
  rotate_left
  · rfl
  · (intro W hW; (obtain ⟨⟨d0, d1⟩, _⟩ := hW); go_simp; first | done | with_reducible rfl)
  (try go_simp)
  refine hK _ _ ?_
  clear hK K
  refine takeC (i := 7) (v := ?_) rfl (by kernel_rfl) (by kernel_rfl) (by kernel_rfl) (fun _ _ _ h => h) (by assumption) (Or.inl ⟨?_, ?_⟩) (fun K hK => ?_)
  rotate_left
  · rfl
  · (intro W hW; (obtain ⟨⟨d0, d1⟩, _⟩ := hW); go_simp; first | done | with_reducible rfl)
  (try go_simp)
  refine hK _ _ ?_
  clear hK K
  refine takeC (i := 8) (v := ?_) rfl (by kernel_rfl) (by kernel_rfl) (by kernel_rfl) (fun _ _ _ h => h) (by assumption) (Or.inl ⟨?_, ?_⟩) (fun K hK => ?_)
  rotate_left
  · rfl
  · (intro W hW; (obtain ⟨⟨d0, d1⟩, _⟩ := hW); go_simp; first | done | with_reducible rfl)
  (try go_simp)
  refine hK _ _ ?_
  clear hK K
  refine callC (k := 9) (by kernel_rfl) rfl ?_ (fun K hK => ?_)
  · rfl
  go_simp
  have hE1 : Ext w1 w1.drew := (Ext.refl w1).drew
  refine (DiskAppend_any w1.drew p s n a g o c B (HD1.out.ext hE1) HG.out (HR.out.below hE1.below) HLEN.out HBS.out).mono ?_
  rintro e w2 ⟨x2, rfl, hx2⟩
  have hkp := hx2.kp
  have hkp' : Keeps (s.Blk p) w1 w2 := (hE1.keeps (S := s.Blk p)).trans hkp (fun _ _ h => h)
  have hC1 : (fun W => (W.cell? ⟨lg, 0, none⟩ = some (.pointer (some ⟨p, 0, none⟩)) ∧ W.cell? ⟨lg, 1, none⟩ = some (.string n.1)) ∧ (W = w1.drew ∨ True)) w2 := ⟨⟨hkp'.cell hLb HC.out, hkp'.cell hLb HC1.out⟩, Or.inr trivial⟩
  have HX2 := hid ((hx2.boxed hE1).from_below HB1.out)
  clear hx2 hkp hkp' hE1 hC0
  go_wp2
  refine hK _ _ hC1 ?_
  clear hK K
  refine takeC (i := 10) (v := ?_) rfl (by kernel_rfl) (by kernel_rfl) (by kernel_rfl) (fun _ _ _ h => h) (by assumption) (Or.inl ⟨?_, ?_⟩) (fun K hK => ?_)
  rotate_left
  · rfl
  · (intro W hW; (obtain ⟨⟨d0, d1⟩, _⟩ := hW); go_simp; first | done | with_reducible rfl)
  (try go_simp)
  refine hK _ _ ?_
  clear hK K
  refine doneC (by kernel_rfl) ?_
  go_wp2
  go_ret
  exact IntR.mk HX2.out
set_option maxRecDepth 100000 in
set_option maxHeartbeats 3200000 in
theorem LogFlush_any (w : World) (lg p : Nat) (s : DkS) (n : SKey) (hL : LogAt w lg p n) (hLb : ¬ s.Blk p lg) (hD : Dk w p s) (hG : s.abs.Good) :
    Calls Try.prog 32 #[.pointer (some ⟨lg, 0, none⟩)] w fun e w' => ∃ x, e = .returned (.int .i64 (if x = 8 then 0 else x)) ∧ DkPost w p s (deedA (syncA n) s.abs) x w' := by
  have HL := hid hL
  have HD := hid hD
  have HG := hid hG
  obtain ⟨c0, c1⟩ := hL.cells
  have HC := hid c0
  have HC1 := hid c1
  clear hL hD hG c0 c1
  go_enter Try.func32, Try.ntmps32
  go_wp2
  refine wp_region_C (fun W => W.cell? ⟨lg, 0, none⟩ = some (.pointer (some ⟨p, 0, none⟩)) ∧ W.cell? ⟨lg, 1, none⟩ = some (.string n.1)) (by kernel_rfl) ?_
  have hC0 : (fun W => W.cell? ⟨lg, 0, none⟩ = some (.pointer (some ⟨p, 0, none⟩)) ∧ W.cell? ⟨lg, 1, none⟩ = some (.string n.1)) w.drew := ⟨HC.out, HC1.out⟩
  refine takeC (i := 0) (v := ?_) rfl (by kernel_rfl) (by kernel_rfl) (by kernel_rfl) (fun _ _ _ h => h) (by assumption) (Or.inl ⟨?_, ?_⟩) (fun K hK => ?_)
  rotate_left
  · rfl
  · (intro W hW; (obtain ⟨d0, d1⟩ := hW); go_simp; first | done | with_reducible rfl)
  (try go_simp)
  refine hK _ _ ?_
  clear hK K
  refine takeC (i := 1) (v := ?_) rfl (by kernel_rfl) (by kernel_rfl) (by kernel_rfl) (fun _ _ _ h => h) (by assumption) (Or.inl ⟨?_, ?_⟩) (fun K hK => ?_)
  rotate_left
  · rfl
  · (intro W hW; (obtain ⟨d0, d1⟩ := hW); go_simp; first | done | with_reducible rfl)
  (try go_simp)
  refine hK _ _ ?_
  clear hK K
  refine takeC (i := 2) (v := ?_) rfl (by kernel_rfl) (by kernel_rfl) (by kernel_rfl) (fun _ _ _ h => h) (by assumption) (Or.inl ⟨?_, ?_⟩) (fun K hK => ?_)
  rotate_left
  · rfl
  · (intro W hW; (obtain ⟨d0, d1⟩ := hW); go_simp; first | done | with_reducible rfl)
  (try go_simp)
  refine hK _ _ ?_
  clear hK K
  refine takeC (i := 3) (v := ?_) rfl (by kernel_rfl) (by kernel_rfl) (by kernel_rfl) (fun _ _ _ h => h) (by assumption) (Or.inl ⟨?_, ?_⟩) (fun K hK => ?_)
  rotate_left
  · rfl
  · (intro W hW; (obtain ⟨d0, d1⟩ := hW); go_simp; first | done | with_reducible rfl)
  (try go_simp)
  refine hK _ _ ?_
  clear hK K
  refine takeC (i := 4) (v := ?_) rfl (by kernel_rfl) (by kernel_rfl) (by kernel_rfl) (fun _ _ _ h => h) (by assumption) (Or.inl ⟨?_, ?_⟩) (fun K hK => ?_)
  rotate_left
  · rfl
  · (intro W hW; (obtain ⟨d0, d1⟩ := hW); go_simp; first | done | with_reducible rfl)
  (try go_simp)
  refine hK _ _ ?_
  clear hK K
  refine takeC (i := 5) (v := ?_) rfl (by kernel_rfl) (by kernel_rfl) (by kernel_rfl) (fun _ _ _ h => h) (by assumption) (Or.inl ⟨?_, ?_⟩) (fun K hK => ?_)
  rotate_left
  · rfl
  · (intro W hW; (obtain ⟨d0, d1⟩ := hW); go_simp; first | done | with_reducible rfl)
  (try go_simp)
  refine hK _ _ ?_
  clear hK K
  refine takeC (i := 6) (v := ?_) rfl (by kernel_rfl) (by kernel_rfl) (by kernel_rfl) (fun _ _ _ h => h) (by assumption) (Or.inl ⟨?_, ?_⟩) (fun K hK => ?_)
  rotate_left
  · rfl
  · (intro W hW; (obtain ⟨d0, d1⟩ := hW); go_simp; first | done | with_reducible rfl)
  (try go_simp)
  refine hK _ _ ?_
  clear hK K
  refine takeC (i := 7) (v := ?_) rfl (by kernel_rfl) (by kernel_rfl) (by kernel_rfl) (fun _ _ _ h => h) (by assumption) (Or.inl ⟨?_, ?_⟩) (fun K hK => ?_)
  rotate_left
  · rfl
  · (intro W hW; (obtain ⟨d0, d1⟩ := hW); go_simp; first | done | with_reducible rfl)
  (try go_simp)
  refine hK _ _ ?_
  clear hK K
  refine callC (k := 8) (by kernel_rfl) rfl ?_ (fun K hK => ?_)
  · rfl
  go_simp
  have hE1 : Ext w w.drew := (Ext.refl w).drew
  refine (DiskSync_any w.drew p s n (HD.out.ext hE1) HG.out).mono ?_
  rintro e w2 ⟨x2, rfl, hx2⟩
  have hkp := hx2.kp
  have hkp' : Keeps (s.Blk p) w w2 := (hE1.keeps (S := s.Blk p)).trans hkp (fun _ _ h => h)
  have hC1 : (fun W => W.cell? ⟨lg, 0, none⟩ = some (.pointer (some ⟨p, 0, none⟩)) ∧ W.cell? ⟨lg, 1, none⟩ = some (.string n.1)) w2 := ⟨hkp'.cell hLb HC.out, hkp'.cell hLb HC1.out⟩
  have HX2 := hid (hx2.boxed hE1)
  clear hx2 hkp hkp' hE1 hC0
  go_wp2
  refine hK _ _ hC1 ?_
  clear hK K
  refine takeC (i := 9) (v := ?_) rfl (by kernel_rfl) (by kernel_rfl) (by kernel_rfl) (fun _ _ _ h => h) (by assumption) (Or.inl ⟨?_, ?_⟩) (fun K hK => ?_)
  rotate_left
  · rfl
  · (intro W hW; (obtain ⟨d0, d1⟩ := hW); go_simp; first | done | with_reducible rfl)
  (try go_simp)
  refine hK _ _ ?_
  clear hK K
  refine doneC (by kernel_rfl) ?_
  by_cases h8 : x2 = 8
  · subst h8
    go_wp2
    go_ret
    exact ⟨8, rfl, HX2.out⟩
  · go_wp2
    go_ret
    exact ⟨x2, by rw [if_neg h8]; rfl, HX2.out⟩
/-- Open has opened. -/
def OpenPost (w : World) (p : Nat) (s : DkS) (n : SKey) (rs : List (List UInt8)) (d : AD) (e : Ending) (w' : World) : Prop :=
  ∃ lg s' v l, e = .returned (.tuple #[.pointer (some ⟨lg, 0, none⟩), v, .int .i64 0]) ∧ LogAt w' lg p n ∧ ¬ s'.Blk p lg ∧ w.heap.size ≤ lg ∧ Dk w' p s' ∧ s'.abs = d ∧ (∀ g, s'.Blk p g → s.Blk p g ∨ w.heap.size ≤ g) ∧ Keeps (s.Blk p) w w' ∧
    Rd encBS 1 w' v l ∧ (∀ x ∈ l, OkBS w' x) ∧ l.map (fun x => x.bs) = rs
theorem OpenPost.mk {w w1 w2 w3 : World} {p : Nat} {s s3 : DkS} {n : SKey} {rs : List (List UInt8)} {d : AD} {v : Value} {l : List BS} (hD : Dk w p s) (hb1 : Below w.heap.size w w1) (hb2 : Below w.heap.size w w2) (hown : Owns (w1.heap.size + 3) 22 encBS 1 w2 v l) (hok : ∀ x ∈ l, OkBS w2 x ∧ (x.bs ≠ [] → w1.heap.size ≤ x.g)) (hmap : l.map (fun x => x.bs) = rs)
    (hD3 : Dk w3 p s3) (ha : s3.abs = d) (hbk : ∀ g, s3.Blk p g → s.Blk p g ∨ w2.heap.size ≤ g) (hk : Keeps (s.Blk p) w2 w3) {w4 : World} (h4 : w4 = w3.alloc (.cells #[.pointer (some ⟨p, 0, none⟩), .string n.1] 93)) :
    OpenPost w p s n rs d (.returned (.tuple #[.pointer (some ⟨w3.heap.size, 0, none⟩), v, .int .i64 0])) w4 := by
  subst h4
  have hE : Ext w3 (w3.alloc (.cells #[.pointer (some ⟨p, 0, none⟩), .string n.1] 93)) := (Ext.refl w3).alloc _
  have hout : ∀ g, w1.heap.size ≤ g → ¬ s.Blk p g := fun g hg hx => by
    have := hD.lt g hx
    have := hb1.size
    omega
  refine ⟨w3.heap.size, s3, v, l, rfl, heap_alloc_new w3 _, fun hx => ?_, Nat.le_trans hb2.size hk.size, hD3.ext hE, ha, fun g hg => (hbk g hg).imp id (fun h => Nat.le_trans hb2.size h), ((below_keeps (S := s.Blk p) hb2).trans hk (fun _ _ h => h)).alloc _, ?_, fun x hx => ?_, hmap⟩
  · have := hD3.lt _ hx
    omega
  · refine (Owns.rd encBS_len ((hown.same (w' := w3) fun g hg => ?_).ext hE))
    have h1 := hown.lt g hg
    exact hk.block g h1.2 (hout g (by omega))
  · exact (OkBS.keeps (hok x hx).1 hk (fun hne => hout _ ((hok x hx).2 hne))).below hE.below
set_option maxRecDepth 100000 in
set_option maxHeartbeats 3200000 in
theorem LogOpen_any (w : World) (p : Nat) (s : DkS) (n : SKey) (b : List UInt8) (er : Int) (rs : List (List UInt8)) (d : AD) (hD : Dk w p s) (hG : s.abs.Good) (hrd : readA n s.abs = (b, er)) (her : er = 0 ∨ er = 8) (hF : FileB b rs)
    (hd : (offB rs rs.length < b.length ∧ deedA (cutA n (offB rs rs.length : Nat)) s.abs = (d, 0)) ∨ (¬ offB rs rs.length < b.length ∧ d = s.abs)) :
    Calls Try.prog 30 #[.pointer (some ⟨p, 0, none⟩), .string n.1] w (OpenPost w p s n rs d) := by
  have hR0 := DiskRead_any w p s n hD hG
  rw [hrd] at hR0
  have HR0 := hid hR0
  have HD := hid hD
  have HG := hid hG
  have HF := hid hF
  have HDD := hid hd
  clear hR0 hD hG hF hd hrd
  go_enter Try.func30, Try.ntmps30
  go_wp2_with fail
  refine HR0.out.mono ?_
  rintro e w1 ⟨v1, rfl, ho1, hf1, hb1⟩
  obtain ⟨a, g, o, c, rfl, hc, hr, _⟩ := ho1.rd
  have hm : c ≤ maxLen := by
    rcases ho1 with ⟨e, _⟩ | ⟨g', cap, cur, e, _, _, hm, _⟩
    · simp only [Value.slice.injEq] at e; rw [e.2.2]; unfold maxLen; omega
    · simp only [Value.slice.injEq] at e; rw [e.2.2]; exact hm
  have HS := hid (Scan_any w1 a g o c b rs hr HF.out hc hm)
  have HB1 := hid hb1
  obtain ⟨q, hq⟩ : ∃ q, q = offB rs rs.length := ⟨_, rfl⟩
  have HQ := hid hq
  clear ho1 hf1 hc hm hr hb1 hq
  rcases her with rfl | rfl
  · go_wp2_with fail
    refine HS.out.mono ?_
    rintro e w2 ⟨v2, l, rfl, hrl, hok, hmap, hb2⟩
    have HSZ := hid hb2.size
    have HB2 := hid (below_trans' HB1.out hb2)
    have HOW := hid hrl
    have HOK := hid hok
    have HM := hid hmap
    have HD2 := hid (HD.out.below (below_trans' HB1.out hb2))
    clear hb2 hrl hok hmap HS HR0
    rw [← HQ.out]
    rcases HDD.out with ⟨hlt, hcut⟩ | ⟨hlt, hdd⟩
    · rw [← HQ.out] at hlt hcut
      have hcc := DiskCut_any w2 p s n q HD2.out HG.out
      rw [hcut] at hcc
      have HCC := hid hcc
      clear hcc hcut
      go_wp2_with fail
      refine HCC.out.mono ?_
      rintro e w3 ⟨x3, rfl, s3, hD3, ha3, hx3, hbk3, hk3⟩
      simp only at hx3
      subst hx3
      have HD3 := hid hD3
      have HA3 := hid ha3
      have HBK := hid hbk3
      have HK3 := hid hk3
      clear hD3 ha3 hbk3 hk3
      go_wp2
      (try simp only [Exit.inBlock, Exit.then]); refine bodyPost_ret (results_tmp3 rfl _ _ _) rfl ?_
      exact OpenPost.mk HD.out HB1.out HB2.out HOW.out HOK.out HM.out HD3.out HA3.out HBK.out HK3.out rfl
    · rw [← HQ.out] at hlt
      go_wp2
      (try simp only [Exit.inBlock, Exit.then]); refine bodyPost_ret (results_tmp3 rfl _ _ _) rfl ?_
      exact OpenPost.mk HD.out HB1.out HB2.out HOW.out HOK.out HM.out HD2.out hdd.symm (fun g hg => Or.inl hg) (Keeps.refl _ _) rfl
  · go_wp2_with fail
    refine HS.out.mono ?_
    rintro e w2 ⟨v2, l, rfl, hrl, hok, hmap, hb2⟩
    have HSZ := hid hb2.size
    have HB2 := hid (below_trans' HB1.out hb2)
    have HOW := hid hrl
    have HOK := hid hok
    have HM := hid hmap
    have HD2 := hid (HD.out.below (below_trans' HB1.out hb2))
    clear hb2 hrl hok hmap HS HR0
    rw [← HQ.out]
    rcases HDD.out with ⟨hlt, hcut⟩ | ⟨hlt, hdd⟩
    · rw [← HQ.out] at hlt hcut
      have hcc := DiskCut_any w2 p s n q HD2.out HG.out
      rw [hcut] at hcc
      have HCC := hid hcc
      clear hcc hcut
      go_wp2_with fail
      refine HCC.out.mono ?_
      rintro e w3 ⟨x3, rfl, s3, hD3, ha3, hx3, hbk3, hk3⟩
      simp only at hx3
      subst hx3
      have HD3 := hid hD3
      have HA3 := hid ha3
      have HBK := hid hbk3
      have HK3 := hid hk3
      clear hD3 ha3 hbk3 hk3
      go_wp2
      (try simp only [Exit.inBlock, Exit.then]); refine bodyPost_ret (results_tmp3 rfl _ _ _) rfl ?_
      exact OpenPost.mk HD.out HB1.out HB2.out HOW.out HOK.out HM.out HD3.out HA3.out HBK.out HK3.out rfl
    · rw [← HQ.out] at hlt
      go_wp2
      (try simp only [Exit.inBlock, Exit.then]); refine bodyPost_ret (results_tmp3 rfl _ _ _) rfl ?_
      exact OpenPost.mk HD.out HB1.out HB2.out HOW.out HOK.out HM.out HD2.out hdd.symm (fun g hg => Or.inl hg) (Keeps.refl _ _) rfl
end Go.Proofs.Ytopabknlgmihpaa
