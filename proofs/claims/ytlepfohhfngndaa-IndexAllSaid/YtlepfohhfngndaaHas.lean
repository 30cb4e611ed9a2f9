/- slices.BinarySearchFunc over a set of ids; ids.Has. -/
import Derived.Test.YtlepfohhfngndaaSet
import Derived.Test.YtlepfohhfngndaaRegion
import Derived.IntWalk
namespace Go.Proofs.Ytlepfohhfngndaa
open Go Go.RowKit Go.MapKept Go.ChangeMaps Go.Maps Go.Sort

theorem strict_get {l : List Id} (h : Strict l) {i j : Nat} (hij : i < j) (hj : j < l.length) : lessId (l[i]'(by omega)) l[j] = true := by
  unfold Strict at h
  exact List.pairwise_iff_getElem.1 h i j (by omega) hj hij
theorem orderId_zero (a b : Id) : orderId a b = 0 ↔ a = b := by
  constructor
  · intro h
    unfold orderId orI cmpI at h
    refine Id.ext' ?_ ?_ <;> (repeat' split at h) <;> omega
  · intro h; rw [h]; exact orderId_self b
theorem less_trans {a b c : Id} (h1 : lessId a b = true) (h2 : lessId b c = true) : lessId a c = true := by
  rw [lessId_iff] at *
  omega
theorem less_irr (a : Id) : lessId a a = false := by rw [lessId_not]; omega
/-- Where a search has come to. -/
structure Srch (l : List Id) (t : Id) (i j : Nat) : Prop where
  le : i ≤ j
  lt : j ≤ l.length
  lo : ∀ k (h : k < l.length), k < i → lessId l[k] t = true
  hi : ∀ k (h : k < l.length), j ≤ k → lessId l[k] t = false
theorem Srch.right {l : List Id} {t : Id} {i j h : Nat} (S : Srch l t i j) (hs : Strict l) (h1 : i ≤ h) (h2 : h < j) (h3 : lessId (l[h]'(by have := S.lt; omega)) t = true) : Srch l t (h + 1) j :=
  ⟨by omega, S.lt, fun k hk hkh => by
    by_cases he : k = h
    · subst he; exact h3
    · exact less_trans (strict_get hs (show k < h by omega) (by have := S.lt; omega)) h3, S.hi⟩
theorem Srch.left {l : List Id} {t : Id} {i j h : Nat} (S : Srch l t i j) (hs : Strict l) (h1 : i ≤ h) (h2 : h < j) (h3 : lessId (l[h]'(by have := S.lt; omega)) t = false) : Srch l t i h :=
  ⟨h1, by have := S.lt; omega, S.lo, fun k hk hkh => by
    by_cases he : k = h
    · subst he; exact h3
    · cases h4 : lessId l[k] t with
      | false => rfl
      | true =>
        have := less_trans (strict_get hs (show h < k by omega) hk) h4
        rw [h3] at this
        cases this⟩
theorem Srch.found {l : List Id} {t : Id} {i : Nat} (S : Srch l t i i) (hs : Strict l) (hi : i < l.length) : decide (t ∈ l) = decide (l[i] = t) := by
  by_cases h : l[i] = t
  · rw [decide_eq_true h]
    simp only [decide_eq_true_eq]
    rw [← h]
    exact List.getElem_mem hi
  · rw [decide_eq_false h]
    simp only [decide_eq_false_iff_not]
    intro hm
    obtain ⟨k, hk, e⟩ := List.getElem_of_mem hm
    rcases Nat.lt_trichotomy k i with h1 | h1 | h1
    · have := S.lo k hk h1
      rw [e, less_irr] at this
      cases this
    · subst h1; exact h e
    · have h2 := S.hi i hi (Nat.le_refl _)
      have h3 := strict_get hs h1 hk
      rw [e, h2] at h3
      cases h3
theorem Srch.none {l : List Id} {t : Id} {i : Nat} (S : Srch l t i i) (hi : ¬ i < l.length) : decide (t ∈ l) = false := by
  simp only [decide_eq_false_iff_not]
  intro hm
  obtain ⟨k, hk, e⟩ := List.getElem_of_mem hm
  have := S.lo k hk (by omega)
  rw [e, less_irr] at this
  cases this

set_option maxRecDepth 100000 in
set_option maxHeartbeats 3200000 in
theorem BS_any (w : World) (a : Option Addr) (g off cap : Nat) (l : List Id) (t : Id) (h : RdS encId 2 w a g off l) (hl : l.length ≤ 50000) (hs : Strict l) :
    Calls Try.prog 52 #[.slice a l.length cap, .agg #[.int .i64 t.r, .int .i64 t.n], .func (.func 53) #[] #[]] w fun e w' => ∃ k : Int, e = .returned (.tuple #[.int .i64 k, .bool (decide (t ∈ l))]) ∧ Below w.heap.size w w' := by
  have eg : ∀ args W, (callFunc 53 args).run Try.prog W = .ok (.enter 53 args) W := enters_of Try.func53 (by kernel_rfl) rfl
  have hE0 : Ext w (w.alloc (.cells #[.int .i64 t.r, .int .i64 t.n] 28)) := (Ext.refl w).alloc _
  have HS := hid hs
  have HH := hid h
  clear hs h
  go_enter Try.func52, Try.ntmps52
  go_wp2
  go_loopw [9, 10] (fun s9 s10 wr => ∃ i j : Nat, s9 = .int .i64 i ∧ s10 = .int .i64 j ∧ Srch l t i j ∧ Ext (w.alloc (.cells #[.int .i64 t.r, .int .i64 t.n] 28)) wr) (fun s9 s10 _ => (intOf s10).toNat - (intOf s9).toNat)
  case atStart => exact ⟨0, l.length, rfl, rfl, ⟨Nat.zero_le _, Nat.le_refl _, fun k _ h => absurd h (by omega), fun k h h2 => absurd h (by omega)⟩, Ext.refl _⟩
  case round =>
    obtain ⟨i, j, rfl, rfl, hS, hE⟩ := hrel
    have hjl := hS.lt
    have hij := hS.le
    have d0 : ∀ W, Below wr.heap.size wr W → W.cell? ⟨w.heap.size, 0, none⟩ = some (.int .i64 t.r) := fun W hW => by rw [hW.cell (p := ⟨w.heap.size, 0, none⟩) (by have := hE.size; simp at this; simp only; omega), hE.below.cell (p := ⟨w.heap.size, 0, none⟩) (by simp)]; simp
    have d1 : ∀ W, Below wr.heap.size wr W → W.cell? ⟨w.heap.size, 1, none⟩ = some (.int .i64 t.n) := fun W hW => by rw [hW.cell (p := ⟨w.heap.size, 1, none⟩) (by have := hE.size; simp at this; simp only; omega), hE.below.cell (p := ⟨w.heap.size, 1, none⟩) (by simp)]; simp
    by_cases hlt : i < j
    · obtain ⟨m, hm⟩ : ∃ m, m = (i + j) / 2 := ⟨_, rfl⟩
      have hmi : i ≤ m := by omega
      have hmj : m < j := by omega
      have hml : m < l.length := by omega
      have HM := hid hm
      have h1 := HH.out.below ((hE0.trans hE).below)
      have hx := h1.index (P := Try.prog) Try.underlying40 sizeId hml cap
      have c0 : ∀ W, Below wr.heap.size wr W → W.cell? ⟨g, off + m * 2, none⟩ = some (.int .i64 l[m].r) := fun W hW => RdI0 (h1.below hW) hml
      have c1 : ∀ W, Below wr.heap.size wr W → W.cell? ⟨g, off + m * 2 + 1, none⟩ = some (.int .i64 l[m].n) := fun W hW => RdI1 (h1.below hW) hml
      have hR : lessId l[m] t = true → Srch l t (m + 1) j := fun h3 => hS.right HS.out hmi hmj h3
      have hL : lessId l[m] t = false → Srch l t i m := fun h3 => hS.left HS.out hmi hmj h3
      have hO := fun W => order_any l[m] t W
      have hneg := orderId_neg l[m] t
      generalize l[m] = x at *
      have HFF : Hid (∀ W, Below wr.heap.size wr W → W.cell? ⟨w.heap.size, 0, none⟩ = some (.int .i64 t.r) ∧ W.cell? ⟨w.heap.size, 1, none⟩ = some (.int .i64 t.n) ∧ W.cell? ⟨g, off + m * 2, none⟩ = some (.int .i64 x.r) ∧ W.cell? ⟨g, off + m * 2 + 1, none⟩ = some (.int .i64 x.n)) := fun W hW => ⟨d0 W hW, d1 W hW, c0 W hW, c1 W hW⟩
      have hsum : ((i : Int) + (j : Int)) / 2 = (m : Int) := by omega
      clear d0 d1 c0 c1 h1 hm
      have HE := hid hE
      have HR := hid hR
      have HL := hid hL
      have HO := hid hO
      clear hE hR hL hO hS
      cases hlo : lessId x t with
      | true =>
        have hng : orderId x t < 0 := hneg.2 hlo
        have HLO := hid hlo
        clear hneg hlo
        go_wp2_with fail
        refine wp_region_C (fun W => Below wr.heap.size wr W) (by kernel_rfl) ?_
        have hC0 : (fun W => Below wr.heap.size wr W) wr.drew := ((Ext.refl wr).drew).below
        refine takeC (i := 0) (v := ?_) rfl (by kernel_rfl) (by kernel_rfl) (by kernel_rfl) (fun _ _ _ h => h) (by assumption) (Or.inl ⟨?_, ?_⟩) (fun K hK => ?_)
        rotate_left
        · rfl
        · (intro W hW; obtain ⟨d0, d1, c0, c1⟩ := HFF.out W hW; go_simp; first | done | with_reducible rfl)
        (try go_simp)
        refine hK _ _ ?_
        clear hK K
        refine takeC (i := 1) (v := ?_) rfl (by kernel_rfl) (by kernel_rfl) (by kernel_rfl) (fun _ _ _ h => h) (by assumption) (Or.inl ⟨?_, ?_⟩) (fun K hK => ?_)
        rotate_left
        · rfl
        · (intro W hW; obtain ⟨d0, d1, c0, c1⟩ := HFF.out W hW; go_simp; first | done | with_reducible rfl)
        (try go_simp)
        refine hK _ _ ?_
        clear hK K
        refine takeC (i := 2) (v := ?_) rfl (by kernel_rfl) (by kernel_rfl) (by kernel_rfl) (fun _ _ _ h => h) (by assumption) (Or.inl ⟨?_, ?_⟩) (fun K hK => ?_)
        rotate_left
        · rfl
        · (intro W hW; obtain ⟨d0, d1, c0, c1⟩ := HFF.out W hW; go_simp; first | done | with_reducible rfl)
        (try go_simp)
        refine hK _ _ ?_
        clear hK K
        refine takeC (i := 3) (v := ?_) rfl (by kernel_rfl) (by kernel_rfl) (by kernel_rfl) (fun _ _ _ h => h) (by assumption) (Or.inl ⟨?_, ?_⟩) (fun K hK => ?_)
        rotate_left
        · rfl
        · (intro W hW; obtain ⟨d0, d1, c0, c1⟩ := HFF.out W hW; go_simp; first | done | with_reducible rfl)
        (try go_simp)
        refine hK _ _ ?_
        clear hK K
        refine takeC (i := 4) (v := ?_) rfl (by kernel_rfl) (by kernel_rfl) (by kernel_rfl) (fun _ _ _ h => h) (by assumption) (Or.inl ⟨?_, ?_⟩) (fun K hK => ?_)
        rotate_left
        · rfl
        · (intro W hW; obtain ⟨d0, d1, c0, c1⟩ := HFF.out W hW; go_simp; first | done | with_reducible rfl)
        (try go_simp)
        refine hK _ _ ?_
        clear hK K
        refine takeC (i := 5) (v := ?_) rfl (by kernel_rfl) (by kernel_rfl) (by kernel_rfl) (fun _ _ _ h => h) (by assumption) (Or.inl ⟨?_, ?_⟩) (fun K hK => ?_)
        rotate_left
        · rfl
        · (intro W hW; obtain ⟨d0, d1, c0, c1⟩ := HFF.out W hW; go_simp; first | done | with_reducible rfl)
        (try go_simp)
        refine hK _ _ ?_
        clear hK K
        refine callC (k := 6) (by kernel_rfl) rfl ?_ (fun K hK => ?_)
        · rfl
        go_simp
        refine (HO.out _).mono ?_
        rintro e w2 ⟨rfl, hE2⟩
        have hC1 : (fun W => Below wr.heap.size wr W) w2 := hC0.trans (hE2.below.mono (Nat.le_of_eq rfl))
        have HE2 := hid (HE.out.trans (((Ext.refl wr).drew).trans hE2))
        clear hE2 hC0
        go_wp2
        refine hK _ _ hC1 ?_
        clear hK K
        refine takeC (i := 7) (v := ?_) rfl (by kernel_rfl) (by kernel_rfl) (by kernel_rfl) (fun _ _ _ h => h) (by assumption) (Or.inl ⟨?_, ?_⟩) (fun K hK => ?_)
        rotate_left
        · rfl
        · (intro W hW; skip; go_simp; first | done | with_reducible rfl)
        (try go_simp)
        refine hK _ _ ?_
        clear hK K
        refine doneC (by kernel_rfl) ?_
        clear hC1
        go_wp2
        go_roundw
        case rel => exact ⟨m + 1, j, by go_num, rfl, HR.out HLO.out, HE2.out⟩
        case measure => simp [intOf]; omega
      | false =>
        have hng : ¬ orderId x t < 0 := fun h3 => by rw [hneg.1 h3] at hlo; cases hlo
        have HLO := hid hlo
        clear hneg hlo
        go_wp2_with fail
        refine wp_region_C (fun W => Below wr.heap.size wr W) (by kernel_rfl) ?_
        have hC0 : (fun W => Below wr.heap.size wr W) wr.drew := ((Ext.refl wr).drew).below
        refine takeC (i := 0) (v := ?_) rfl (by kernel_rfl) (by kernel_rfl) (by kernel_rfl) (fun _ _ _ h => h) (by assumption) (Or.inl ⟨?_, ?_⟩) (fun K hK => ?_)
        rotate_left
        · rfl
        · (intro W hW; obtain ⟨d0, d1, c0, c1⟩ := HFF.out W hW; go_simp; first | done | with_reducible rfl)
        (try go_simp)
        refine hK _ _ ?_
        clear hK K
        refine takeC (i := 1) (v := ?_) rfl (by kernel_rfl) (by kernel_rfl) (by kernel_rfl) (fun _ _ _ h => h) (by assumption) (Or.inl ⟨?_, ?_⟩) (fun K hK => ?_)
        rotate_left
        · rfl
        · (intro W hW; obtain ⟨d0, d1, c0, c1⟩ := HFF.out W hW; go_simp; first | done | with_reducible rfl)
        (try go_simp)
        refine hK _ _ ?_
        clear hK K
        refine takeC (i := 2) (v := ?_) rfl (by kernel_rfl) (by kernel_rfl) (by kernel_rfl) (fun _ _ _ h => h) (by assumption) (Or.inl ⟨?_, ?_⟩) (fun K hK => ?_)
        rotate_left
        · rfl
        · (intro W hW; obtain ⟨d0, d1, c0, c1⟩ := HFF.out W hW; go_simp; first | done | with_reducible rfl)
        (try go_simp)
        refine hK _ _ ?_
        clear hK K
        refine takeC (i := 3) (v := ?_) rfl (by kernel_rfl) (by kernel_rfl) (by kernel_rfl) (fun _ _ _ h => h) (by assumption) (Or.inl ⟨?_, ?_⟩) (fun K hK => ?_)
        rotate_left
        · rfl
        · (intro W hW; obtain ⟨d0, d1, c0, c1⟩ := HFF.out W hW; go_simp; first | done | with_reducible rfl)
        (try go_simp)
        refine hK _ _ ?_
        clear hK K
        refine takeC (i := 4) (v := ?_) rfl (by kernel_rfl) (by kernel_rfl) (by kernel_rfl) (fun _ _ _ h => h) (by assumption) (Or.inl ⟨?_, ?_⟩) (fun K hK => ?_)
        rotate_left
        · rfl
        · (intro W hW; obtain ⟨d0, d1, c0, c1⟩ := HFF.out W hW; go_simp; first | done | with_reducible rfl)
        (try go_simp)
        refine hK _ _ ?_
        clear hK K
        refine takeC (i := 5) (v := ?_) rfl (by kernel_rfl) (by kernel_rfl) (by kernel_rfl) (fun _ _ _ h => h) (by assumption) (Or.inl ⟨?_, ?_⟩) (fun K hK => ?_)
        rotate_left
        · rfl
        · (intro W hW; obtain ⟨d0, d1, c0, c1⟩ := HFF.out W hW; go_simp; first | done | with_reducible rfl)
        (try go_simp)
        refine hK _ _ ?_
        clear hK K
        refine callC (k := 6) (by kernel_rfl) rfl ?_ (fun K hK => ?_)
        · rfl
        go_simp
        refine (HO.out _).mono ?_
        rintro e w2 ⟨rfl, hE2⟩
        have hC1 : (fun W => Below wr.heap.size wr W) w2 := hC0.trans (hE2.below.mono (Nat.le_of_eq rfl))
        have HE2 := hid (HE.out.trans (((Ext.refl wr).drew).trans hE2))
        clear hE2 hC0
        go_wp2
        refine hK _ _ hC1 ?_
        clear hK K
        refine takeC (i := 7) (v := ?_) rfl (by kernel_rfl) (by kernel_rfl) (by kernel_rfl) (fun _ _ _ h => h) (by assumption) (Or.inl ⟨?_, ?_⟩) (fun K hK => ?_)
        rotate_left
        · rfl
        · (intro W hW; skip; go_simp; first | done | with_reducible rfl)
        (try go_simp)
        refine hK _ _ ?_
        clear hK K
        refine doneC (by kernel_rfl) ?_
        clear hC1
        go_wp2
        go_roundw
        case rel => exact ⟨i, m, rfl, rfl, HL.out HLO.out, HE2.out⟩
        case measure => simp [intOf]; omega
    · obtain rfl : i = j := by omega
      by_cases hil : i < l.length
      · have h1 := HH.out.below ((hE0.trans hE).below)
        have hx := h1.index (P := Try.prog) Try.underlying40 sizeId hil cap
        have c0 : ∀ W, Below wr.heap.size wr W → W.cell? ⟨g, off + i * 2, none⟩ = some (.int .i64 l[i].r) := fun W hW => RdI0 (h1.below hW) hil
        have c1 : ∀ W, Below wr.heap.size wr W → W.cell? ⟨g, off + i * 2 + 1, none⟩ = some (.int .i64 l[i].n) := fun W hW => RdI1 (h1.below hW) hil
        have hO := fun W => order_any l[i] t W
        have hF := hS.found HS.out hil
        have hz := orderId_zero l[i] t
        generalize l[i] = x at *
        have hz2 : (orderId x t == 0) = decide (x = t) := by
          by_cases h3 : x = t
          · rw [decide_eq_true h3, hz.2 h3]; rfl
          · rw [decide_eq_false h3, beq_eq_false_iff_ne]
            exact fun h4 => h3 (hz.1 h4)
        have HFF : Hid (∀ W, Below wr.heap.size wr W → W.cell? ⟨w.heap.size, 0, none⟩ = some (.int .i64 t.r) ∧ W.cell? ⟨w.heap.size, 1, none⟩ = some (.int .i64 t.n) ∧ W.cell? ⟨g, off + i * 2, none⟩ = some (.int .i64 x.r) ∧ W.cell? ⟨g, off + i * 2 + 1, none⟩ = some (.int .i64 x.n)) := fun W hW => ⟨d0 W hW, d1 W hW, c0 W hW, c1 W hW⟩
        have HF := hid hF
        have HE := hid hE
        have HO := hid hO
        clear d0 d1 c0 c1 h1 hF hE hO hS hz
        go_wp2_with fail
        refine wp_region_C (fun W => Below wr.heap.size wr W) (by kernel_rfl) ?_
        have hC0 : (fun W => Below wr.heap.size wr W) wr.drew := ((Ext.refl wr).drew).below
        refine takeC (i := 0) (v := ?_) rfl (by kernel_rfl) (by kernel_rfl) (by kernel_rfl) (fun _ _ _ h => h) (by assumption) (Or.inl ⟨?_, ?_⟩) (fun K hK => ?_)
        rotate_left
        · rfl
        · (intro W hW; obtain ⟨d0, d1, c0, c1⟩ := HFF.out W hW; go_simp; first | done | with_reducible rfl)
        (try go_simp)
        refine hK _ _ ?_
        clear hK K
        refine takeC (i := 1) (v := ?_) rfl (by kernel_rfl) (by kernel_rfl) (by kernel_rfl) (fun _ _ _ h => h) (by assumption) (Or.inl ⟨?_, ?_⟩) (fun K hK => ?_)
        rotate_left
        · rfl
        · (intro W hW; obtain ⟨d0, d1, c0, c1⟩ := HFF.out W hW; go_simp; first | done | with_reducible rfl)
        (try go_simp)
        refine hK _ _ ?_
        clear hK K
        refine takeC (i := 2) (v := ?_) rfl (by kernel_rfl) (by kernel_rfl) (by kernel_rfl) (fun _ _ _ h => h) (by assumption) (Or.inl ⟨?_, ?_⟩) (fun K hK => ?_)
        rotate_left
        · rfl
        · (intro W hW; obtain ⟨d0, d1, c0, c1⟩ := HFF.out W hW; go_simp; first | done | with_reducible rfl)
        (try go_simp)
        refine hK _ _ ?_
        clear hK K
        refine takeC (i := 3) (v := ?_) rfl (by kernel_rfl) (by kernel_rfl) (by kernel_rfl) (fun _ _ _ h => h) (by assumption) (Or.inl ⟨?_, ?_⟩) (fun K hK => ?_)
        rotate_left
        · rfl
        · (intro W hW; obtain ⟨d0, d1, c0, c1⟩ := HFF.out W hW; go_simp; first | done | with_reducible rfl)
        (try go_simp)
        refine hK _ _ ?_
        clear hK K
        refine takeC (i := 4) (v := ?_) rfl (by kernel_rfl) (by kernel_rfl) (by kernel_rfl) (fun _ _ _ h => h) (by assumption) (Or.inl ⟨?_, ?_⟩) (fun K hK => ?_)
        rotate_left
        · rfl
        · (intro W hW; obtain ⟨d0, d1, c0, c1⟩ := HFF.out W hW; go_simp; first | done | with_reducible rfl)
        (try go_simp)
        refine hK _ _ ?_
        clear hK K
        refine takeC (i := 5) (v := ?_) rfl (by kernel_rfl) (by kernel_rfl) (by kernel_rfl) (fun _ _ _ h => h) (by assumption) (Or.inl ⟨?_, ?_⟩) (fun K hK => ?_)
        rotate_left
        · rfl
        · (intro W hW; obtain ⟨d0, d1, c0, c1⟩ := HFF.out W hW; go_simp; first | done | with_reducible rfl)
        (try go_simp)
        refine hK _ _ ?_
        clear hK K
        refine takeC (i := 6) (v := ?_) rfl (by kernel_rfl) (by kernel_rfl) (by kernel_rfl) (fun _ _ _ h => h) (by assumption) (Or.inl ⟨?_, ?_⟩) (fun K hK => ?_)
        rotate_left
        · rfl
        · (intro W hW; obtain ⟨d0, d1, c0, c1⟩ := HFF.out W hW; go_simp; first | done | with_reducible rfl)
        (try go_simp)
        refine hK _ _ ?_
        clear hK K
        refine takeC (i := 7) (v := ?_) rfl (by kernel_rfl) (by kernel_rfl) (by kernel_rfl) (fun _ _ _ h => h) (by assumption) (Or.inl ⟨?_, ?_⟩) (fun K hK => ?_)
        rotate_left
        · rfl
        · (intro W hW; obtain ⟨d0, d1, c0, c1⟩ := HFF.out W hW; go_simp; first | done | with_reducible rfl)
        (try go_simp)
        refine hK _ _ ?_
        clear hK K
        refine takeC (i := 8) (v := ?_) rfl (by kernel_rfl) (by kernel_rfl) (by kernel_rfl) (fun _ _ _ h => h) (by assumption) (Or.inl ⟨?_, ?_⟩) (fun K hK => ?_)
        rotate_left
        · rfl
        · (intro W hW; obtain ⟨d0, d1, c0, c1⟩ := HFF.out W hW; go_simp; first | done | with_reducible rfl)
        (try go_simp)
        refine hK _ _ ?_
        clear hK K
        refine takeC (i := 9) (v := ?_) rfl (by kernel_rfl) (by kernel_rfl) (by kernel_rfl) (fun _ _ _ h => h) (by assumption) (Or.inl ⟨?_, ?_⟩) (fun K hK => ?_)
        rotate_left
        · rfl
        · (intro W hW; obtain ⟨d0, d1, c0, c1⟩ := HFF.out W hW; go_simp; first | done | with_reducible rfl)
        (try go_simp)
        refine hK _ _ ?_
        clear hK K
        refine takeC (i := 10) (v := ?_) rfl (by kernel_rfl) (by kernel_rfl) (by kernel_rfl) (fun _ _ _ h => h) (by assumption) (Or.inl ⟨?_, ?_⟩) (fun K hK => ?_)
        rotate_left
        · rfl
        · (intro W hW; obtain ⟨d0, d1, c0, c1⟩ := HFF.out W hW; go_simp; first | done | with_reducible rfl)
        (try go_simp)
        refine hK _ _ ?_
        clear hK K
        refine callC (k := 11) (by kernel_rfl) rfl ?_ (fun K hK => ?_)
        · rfl
        go_simp
        refine (HO.out _).mono ?_
        rintro e w2 ⟨rfl, hE2⟩
        have hC1 : (fun W => Below wr.heap.size wr W) w2 := hC0.trans (hE2.below.mono (Nat.le_of_eq rfl))
        have HE2 := hid (HE.out.trans (((Ext.refl wr).drew).trans hE2))
        clear hE2 hC0
        go_wp2
        refine hK _ _ hC1 ?_
        clear hK K
        refine takeC (i := 12) (v := ?_) rfl (by kernel_rfl) (by kernel_rfl) (by kernel_rfl) (fun _ _ _ h => h) (by assumption) (Or.inl ⟨?_, ?_⟩) (fun K hK => ?_)
        rotate_left
        · rfl
        · (intro W hW; skip; go_simp; first | done | with_reducible rfl)
        (try go_simp)
        refine hK _ _ ?_
        clear hK K
        refine takeC (i := 13) (v := ?_) rfl (by kernel_rfl) (by kernel_rfl) (by kernel_rfl) (fun _ _ _ h => h) (by assumption) (Or.inl ⟨?_, ?_⟩) (fun K hK => ?_)
        rotate_left
        · rfl
        · (intro W hW; skip; go_simp; first | done | with_reducible rfl)
        (try go_simp)
        refine hK _ _ ?_
        clear hK K
        refine takeC (i := 14) (v := ?_) rfl (by kernel_rfl) (by kernel_rfl) (by kernel_rfl) (fun _ _ _ h => h) (by assumption) (Or.inl ⟨?_, ?_⟩) (fun K hK => ?_)
        rotate_left
        · rfl
        · (intro W hW; skip; go_simp; first | done | with_reducible rfl)
        (try go_simp)
        refine hK _ _ ?_
        clear hK K
        refine takeC (i := 15) (v := ?_) rfl (by kernel_rfl) (by kernel_rfl) (by kernel_rfl) (fun _ _ _ h => h) (by assumption) (Or.inl ⟨?_, ?_⟩) (fun K hK => ?_)
        rotate_left
        · rfl
        · (intro W hW; skip; go_simp; first | done | with_reducible rfl)
        (try go_simp)
        refine hK _ _ ?_
        clear hK K
        refine doneC (by kernel_rfl) ?_
        clear hC1
        go_wp2
        go_ret2
        exact ⟨_, by rw [HF.out]; rfl, (hE0.trans HE2.out).below⟩
      · have hF := hS.none hil
        have HF := hid hF
        have HE := hid hE
        have hdl : decide ((i : Int) < (l.length : Int)) = false := by simp; omega
        clear d0 d1 hF hE hS
        go_wp2_with fail
        refine wp_region_C (fun W => Below wr.heap.size wr W) (by kernel_rfl) ?_
        have hC0 : (fun W => Below wr.heap.size wr W) wr.drew := ((Ext.refl wr).drew).below
        refine takeC (i := 0) (v := ?_) rfl (by kernel_rfl) (by kernel_rfl) (by kernel_rfl) (fun _ _ _ h => h) (by assumption) (Or.inl ⟨?_, ?_⟩) (fun K hK => ?_)
        rotate_left
        · rfl
        · (intro W hW; skip; go_simp; first | done | with_reducible rfl)
        (try go_simp)
        refine hK _ _ ?_
        clear hK K
        refine takeC (i := 1) (v := ?_) rfl (by kernel_rfl) (by kernel_rfl) (by kernel_rfl) (fun _ _ _ h => h) (by assumption) (Or.inl ⟨?_, ?_⟩) (fun K hK => ?_)
        rotate_left
        · rfl
        · (intro W hW; skip; go_simp; first | done | with_reducible rfl)
        (try go_simp)
        refine hK _ _ ?_
        clear hK K
        refine takeC (i := 2) (v := ?_) rfl (by kernel_rfl) (by kernel_rfl) (by kernel_rfl) (fun _ _ _ h => h) (by assumption) (Or.inl ⟨?_, ?_⟩) (fun K hK => ?_)
        rotate_left
        · rfl
        · (intro W hW; skip; go_simp; first | done | with_reducible rfl)
        (try go_simp)
        refine hK _ _ ?_
        clear hK K
        refine takeC (i := 3) (v := ?_) rfl (by kernel_rfl) (by kernel_rfl) (by kernel_rfl) (fun _ _ _ h => h) (by assumption) (Or.inl ⟨?_, ?_⟩) (fun K hK => ?_)
        rotate_left
        · rfl
        · (intro W hW; skip; go_simp; first | done | with_reducible rfl)
        (try go_simp)
        refine hK _ _ ?_
        clear hK K
        refine takeC (i := 4) (v := ?_) rfl (by kernel_rfl) (by kernel_rfl) (by kernel_rfl) (fun _ _ _ h => h) (by assumption) (Or.inl ⟨?_, ?_⟩) (fun K hK => ?_)
        rotate_left
        · rfl
        · (intro W hW; skip; go_simp; first | done | with_reducible rfl)
        (try go_simp)
        refine hK _ _ ?_
        clear hK K
        refine takeC (i := 5) (v := undef) rfl (by kernel_rfl) (by kernel_rfl) (by kernel_rfl) (fun _ _ _ h => h) (by assumption) (Or.inr ⟨?_, rfl⟩) (fun K hK => ?_)
        · rfl
        (try go_simp)
        refine hK _ _ ?_
        clear hK K
        refine takeC (i := 6) (v := undef) rfl (by kernel_rfl) (by kernel_rfl) (by kernel_rfl) (fun _ _ _ h => h) (by assumption) (Or.inr ⟨?_, rfl⟩) (fun K hK => ?_)
        · rfl
        (try go_simp)
        refine hK _ _ ?_
        clear hK K
        refine takeC (i := 7) (v := undef) rfl (by kernel_rfl) (by kernel_rfl) (by kernel_rfl) (fun _ _ _ h => h) (by assumption) (Or.inr ⟨?_, rfl⟩) (fun K hK => ?_)
        · rfl
        (try go_simp)
        refine hK _ _ ?_
        clear hK K
        refine takeC (i := 8) (v := undef) rfl (by kernel_rfl) (by kernel_rfl) (by kernel_rfl) (fun _ _ _ h => h) (by assumption) (Or.inr ⟨?_, rfl⟩) (fun K hK => ?_)
        · rfl
        (try go_simp)
        refine hK _ _ ?_
        clear hK K
        refine takeC (i := 9) (v := undef) rfl (by kernel_rfl) (by kernel_rfl) (by kernel_rfl) (fun _ _ _ h => h) (by assumption) (Or.inr ⟨?_, rfl⟩) (fun K hK => ?_)
        · rfl
        (try go_simp)
        refine hK _ _ ?_
        clear hK K
        refine takeC (i := 10) (v := undef) rfl (by kernel_rfl) (by kernel_rfl) (by kernel_rfl) (fun _ _ _ h => h) (by assumption) (Or.inr ⟨?_, rfl⟩) (fun K hK => ?_)
        · rfl
        (try go_simp)
        refine hK _ _ ?_
        clear hK K
        refine takeC (i := 11) (v := undef) rfl (by kernel_rfl) (by kernel_rfl) (by kernel_rfl) (fun _ _ _ h => h) (by assumption) (Or.inr ⟨?_, rfl⟩) (fun K hK => ?_)
        · rfl
        (try go_simp)
        refine hK _ _ ?_
        clear hK K
        refine takeC (i := 12) (v := undef) rfl (by kernel_rfl) (by kernel_rfl) (by kernel_rfl) (fun _ _ _ h => h) (by assumption) (Or.inr ⟨?_, rfl⟩) (fun K hK => ?_)
        · rfl
        (try go_simp)
        refine hK _ _ ?_
        clear hK K
        refine takeC (i := 13) (v := ?_) rfl (by kernel_rfl) (by kernel_rfl) (by kernel_rfl) (fun _ _ _ h => h) (by assumption) (Or.inl ⟨?_, ?_⟩) (fun K hK => ?_)
        rotate_left
        · rfl
        · (intro W hW; skip; go_simp; first | done | with_reducible rfl)
        (try go_simp)
        refine hK _ _ ?_
        clear hK K
        refine takeC (i := 14) (v := ?_) rfl (by kernel_rfl) (by kernel_rfl) (by kernel_rfl) (fun _ _ _ h => h) (by assumption) (Or.inl ⟨?_, ?_⟩) (fun K hK => ?_)
        rotate_left
        · rfl
        · (intro W hW; skip; go_simp; first | done | with_reducible rfl)
        (try go_simp)
        refine hK _ _ ?_
        clear hK K
        refine takeC (i := 15) (v := ?_) rfl (by kernel_rfl) (by kernel_rfl) (by kernel_rfl) (fun _ _ _ h => h) (by assumption) (Or.inl ⟨?_, ?_⟩) (fun K hK => ?_)
        rotate_left
        · rfl
        · (intro W hW; skip; go_simp; first | done | with_reducible rfl)
        (try go_simp)
        refine hK _ _ ?_
        clear hK K
        refine doneC (by kernel_rfl) ?_
        clear hC0
        go_wp2
        go_ret2
        exact ⟨_, by rw [HF.out]; rfl, ((hE0.trans HE.out).drew).below⟩

set_option maxRecDepth 100000 in
set_option maxHeartbeats 3200000 in
theorem Has_any (w : World) (a : Option Addr) (g off cap : Nat) (l : List Id) (t : Id) (h : RdS encId 2 w a g off l) (hl : l.length ≤ 50000) (hs : Strict l) :
    Calls Try.prog 35 #[.slice a l.length cap, .agg #[.int .i64 t.r, .int .i64 t.n]] w fun e w' => e = .returned (.bool (decide (t ∈ l))) ∧ Below w.heap.size w w' := by
  have hE0 : Ext w (w.alloc (.cells #[.int .i64 t.r, .int .i64 t.n] 28)) := (Ext.refl w).alloc _
  have hB := BS_any _ a g off cap l t (h.below hE0.below) hl hs
  clear h hs
  go_enter Try.func35, Try.ntmps35
  go_wp2_with fail
  refine hB.mono ?_
  rintro e w2 ⟨k, rfl, hb2⟩
  go_wp2
  go_ret
  exact ⟨rfl, hE0.below.trans (hb2.mono (by simp))⟩
end Go.Proofs.Ytlepfohhfngndaa
