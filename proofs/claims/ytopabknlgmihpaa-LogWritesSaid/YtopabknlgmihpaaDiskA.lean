/- The disk: New, Fuse, Down, total, Used, deed. -/
import Derived.Test.YtopabknlgmihpaaDiskM
namespace Go.Proofs.Ytopabknlgmihpaa
open Go Go.RowKit Go.MapKept Go.ChangeMaps Go.Maps

theorem abs_eq {s : DkS} {d : AD} (h1 : s.room = d.room) (h2 : s.fuse = d.fuse) (h3 : s.down = d.down) (h4 : s.l.map (fun x => (x.1, (s.fs x.2).bs, (s.fs x.2).sure)) = d.l) : s.abs = d := by
  cases d
  simp only at h1 h2 h3 h4
  subst h1 h2 h3 h4
  rfl

theorem Dk.start (w : World) (r : Int) : Dk ((w.alloc (.map #[] 0)).alloc (.cells #[.map (some w.heap.size), .int .i64 r, .int .i64 (-1), .bool false] 67)) (w.heap.size + 1) ⟨w.heap.size, r, -1, false, [], fun _ => ⟨undef, [], 0⟩⟩ := by
  refine ⟨?_, ?_, fun x hx => (by cases hx), fun x hx => (by cases hx), (by simp), List.Pairwise.nil, fun x hx => (by cases hx), fun x hx => (by cases hx)⟩
  · have := heap_alloc_new (w.alloc (.map #[] 0)) (.cells #[.map (some w.heap.size), .int .i64 r, .int .i64 (-1), .bool false] 67)
    simpa using this
  · exact (MapIs.made w vS vP).same (((Ext.refl (w.alloc (.map #[] 0))).alloc _).block _ (by simp))
def DNew (w : World) (room : Int) (e : Ending) (w' : World) : Prop := ∃ p s, e = .returned (.pointer (some ⟨p, 0, none⟩)) ∧ Dk w' p s ∧ s.abs = ⟨max room 0, -1, false, []⟩ ∧ (∀ g, s.Blk p g → w.heap.size ≤ g) ∧ Ext w w'
theorem DNew.mk (w : World) (room r : Int) (hr : r = max room 0) : DNew w room (.returned (.pointer (some ⟨w.heap.size + 1, 0, none⟩))) ((w.alloc (.map #[] 0)).alloc (.cells #[.map (some w.heap.size), .int .i64 r, .int .i64 (-1), .bool false] 67)) := by
  subst hr
  refine ⟨_, _, rfl, Dk.start w _, rfl, fun g hg => ?_, ((Ext.refl w).alloc _).alloc _⟩
  rcases hg with rfl | rfl | ⟨x, hx, _⟩
  · omega
  · exact Nat.le_refl _
  · cases hx
set_option maxRecDepth 100000 in
set_option maxHeartbeats 800000 in
theorem DiskNew_any (w : World) (room : Int) : Calls Try.prog 11 #[.int .i64 room] w (DNew w room) := by
  have hmm := @run_makeMap Try.prog
  go_enter Try.func11, Try.ntmps11
  go_wp2
  · go_ret
    exact DNew.mk w room 0 (by omega)
  · go_ret
    exact DNew.mk w room room (by omega)

theorem heap_setCell_at {w : World} {p o : Nat} {cur : Array Value} {e : TypeId} {fz : Nat × Nat} (h : w.heap[p]? = some (.cells cur e fz)) (v : Value) : (w.setCell ⟨p, o, none⟩ v).heap[p]? = some (.cells (cur.setIfInBounds o v) e fz) := by
  simp [World.setCell, Array.getElem?_modify, h]
theorem keeps_setCell (w : World) (p o : Nat) (v : Value) : Keeps (· = p) w (w.setCell ⟨p, o, none⟩ v) := (Keeps.refl (· = p) w).setCell (fun _ => rfl) v
theorem Dk.setFuse {w : World} {p : Nat} {s : DkS} (h : Dk w p s) (n : Int) : Dk (w.setCell ⟨p, 2, none⟩ (.int .i64 n)) p { s with fuse := n } :=
  h.setWords (heap_setCell_at h.cell _) (fun g _ hne => (keeps_setCell w p 2 (.int .i64 n)).block g (h.lt g ‹_›) hne)
theorem Dk.setDown {w : World} {p : Nat} {s : DkS} (h : Dk w p s) (b : Bool) : Dk (w.setCell ⟨p, 3, none⟩ (.bool b)) p { s with down := b } :=
  h.setWords (heap_setCell_at h.cell _) (fun g _ hne => (keeps_setCell w p 3 (.bool b)).block g (h.lt g ‹_›) hne)

set_option maxRecDepth 100000 in
set_option maxHeartbeats 800000 in
theorem DiskFuse_any (w : World) (p : Nat) (s : DkS) (n : Int) (h : Dk w p s) : Calls Try.prog 14 #[.pointer (some ⟨p, 0, none⟩), .int .i64 n] w fun e w' => e = .returned (.tuple #[]) ∧ Dk w' p { s with fuse := max n (-1) } ∧ Keeps (· = p) w w' := by
  obtain ⟨c0, c1, c2, c3⟩ := h.cells
  have hf := h.free 2
  have hm1 : n < -1 → max n (-1) = -1 := fun _ => by omega
  have hm2 : -1 ≤ n → max n (-1) = n := fun _ => by omega
  have H1 := hid hm1
  have H2 := hid hm2
  have HD := hid h
  clear hm1 hm2 h
  generalize max n (-1) = mx at *
  go_enter Try.func14, Try.ntmps14
  go_wp2
  · have hlt : n < -1 := by assumption
    go_end0
    rw [H1.out hlt]
    exact ⟨rfl, HD.out.setFuse _, keeps_setCell _ _ _ _⟩
  · have hlt : -1 ≤ n := by assumption
    go_end0
    rw [H2.out hlt]
    exact ⟨rfl, HD.out.setFuse _, keeps_setCell _ _ _ _⟩

set_option maxRecDepth 100000 in
set_option maxHeartbeats 800000 in
theorem DiskDown_any (w : World) (p : Nat) (s : DkS) (h : Dk w p s) : Calls Try.prog 17 #[.pointer (some ⟨p, 0, none⟩)] w fun e w' => e = .returned (.bool s.down) ∧ w = w' := by
  obtain ⟨c0, c1, c2, c3⟩ := h.cells
  clear h
  go_enter Try.func17, Try.ntmps17
  go_wp2
  go_ret
  exact ⟨rfl, rfl⟩

def IntR (R : Int → World → Prop) (e : Ending) (w' : World) : Prop := ∃ x, e = .returned (.int .i64 x) ∧ R x w'
theorem IntR.mk {R : Int → World → Prop} {x : Int} {w' : World} (h : R x w') : IntR R (.returned (.int .i64 x)) w' := ⟨x, rfl, h⟩
theorem IntR.mono {R S : Int → World → Prop} {e : Ending} {w' : World} (h : IntR R e w') (k : ∀ x, R x w' → S x w') : IntR S e w' := by
  obtain ⟨x, he, hx⟩ := h
  exact ⟨x, he, k x hx⟩
/-- What a deed leaves of the fuse. -/
def burn (n : Int) : Int := if 0 < n then n - 1 else n

set_option maxRecDepth 100000 in
set_option maxHeartbeats 800000 in
/-- The power is off, or goes off. -/
theorem deed_dead (w : World) (p : Nat) (s : DkS) (h : Dk w p s) (hd : s.down = true ∨ s.fuse = 0) (fn : Value) :
    Calls Try.prog 35 #[.pointer (some ⟨p, 0, none⟩), fn] w (IntR fun x w' => x = 15 ∧ Dk w' p { s with down := true } ∧ Keeps (· = p) w w') := by
  obtain ⟨c0, c1, c2, c3⟩ := h.cells
  have hf := h.free 3
  have HD := hid h
  cases hdn : s.down with
  | true =>
    rw [hdn] at c3
    clear h hd hdn
    go_enter Try.func35, Try.ntmps35
    go_wp2
    go_ret
    exact IntR.mk ⟨rfl, HD.out.setDown _, keeps_setCell _ _ _ _⟩
  | false =>
    have h0 : s.fuse = 0 := by
      rcases hd with h1 | h1
      · rw [hdn] at h1; cases h1
      · exact h1
    rw [hdn] at c3
    rw [h0] at c2
    clear h hd hdn h0
    go_enter Try.func35, Try.ntmps35
    go_wp2
    go_ret
    exact IntR.mk ⟨rfl, HD.out.setDown _, keeps_setCell _ _ _ _⟩
set_option maxRecDepth 100000 in
set_option maxHeartbeats 800000 in
/-- The power stays: the deed is done. -/
theorem deed_live (w : World) (p : Nat) (s : DkS) (h : Dk w p s) (hd : s.down = false) (h0 : s.fuse ≠ 0) (hb : -1 ≤ s.fuse) (hb2 : s.fuse ≤ 9223372036854775807) (K : Nat) (cap : Array Value) (eg : ∀ args W, (callFunc K args).run Try.prog W = .ok (.enter K args) W) (R : Int → World → Prop)
    (hcl : ∀ W, Dk W p { s with fuse := burn s.fuse } → Keeps (· = p) w W → Calls Try.prog K cap W (IntR R)) :
    Calls Try.prog 35 #[.pointer (some ⟨p, 0, none⟩), .func (.func K) #[] cap] w (IntR R) := by
  obtain ⟨c0, c1, c2, c3⟩ := h.cells
  have hf := h.free 2
  have HC := hid hcl
  have HD := hid h
  have h0' : (s.fuse == 0) = false := by simpa using h0
  rw [hd] at c3
  by_cases hp : 0 < s.fuse
  · have HB := hid (show burn s.fuse = s.fuse - 1 by unfold burn; rw [if_pos hp])
    clear h hd hcl h0
    go_enter Try.func35, Try.ntmps35
    go_wp2_with fail
    have hcl := HC.out (w.setCell ⟨p, 2, none⟩ (.int .i64 (s.fuse - 1))) (by rw [HB.out]; exact HD.out.setFuse _) (keeps_setCell _ _ _ _)
    clear HC HD HB
    refine hcl.mono ?_
    clear hcl
    rintro e w2 ⟨x, rfl, hx⟩
    have HX := hid hx
    clear hx c0 c1 c2 c3 hf
    go_wp2
    go_ret
    exact IntR.mk HX.out
  · have HB := hid (show burn s.fuse = s.fuse by unfold burn; rw [if_neg hp])
    clear h hd hcl h0
    go_enter Try.func35, Try.ntmps35
    go_wp2_with fail
    have hcl := HC.out w (by rw [HB.out]; exact HD.out) (Keeps.refl _ _)
    clear HC HD HB
    refine hcl.mono ?_
    clear hcl
    rintro e w2 ⟨x, rfl, hx⟩
    have HX := hid hx
    clear hx c0 c1 c2 c3 hf
    go_wp2
    go_ret
    exact IntR.mk HX.out


def sumF (fs : Nat → FileS) (l : List (SKey × Nat)) : Nat := (l.map (fun x => (fs x.2).bs.length)).sum
theorem sumF_mid (fs : Nat → FileS) (a c : List (SKey × Nat)) (x : SKey × Nat) : sumF fs (a ++ x :: c) = sumF fs (a ++ c) + (fs x.2).bs.length := by
  unfold sumF
  simp only [List.map_append, List.map_cons, List.sum_append, List.sum_cons]
  omega
theorem sumF_abs (s : DkS) : sumF s.fs s.l = totL s.abs.l := by
  unfold sumF totL DkS.abs
  simp only [List.map_map]
  rfl

set_option maxRecDepth 100000 in
set_option maxHeartbeats 1600000 in
theorem total_any (w : World) (p : Nat) (s : DkS) (h : Dk w p s) (hT : sumF s.fs s.l ≤ 1073741824) : Calls Try.prog 38 #[.pointer (some ⟨p, 0, none⟩)] w fun e w' => e = .returned (.int .i64 (totL s.abs.l)) ∧ Ext w w' := by
  rw [← sumF_abs]
  obtain ⟨c0, _⟩ := h.cells
  obtain ⟨o, hr, hR⟩ := h.files.range (P := Try.prog) Try.underlying65
  have HD := hid h
  obtain ⟨T, hTe⟩ : ∃ T, T = sumF s.fs s.l := ⟨_, rfl⟩
  rw [← hTe] at hT ⊢
  have HT := hid hTe
  clear h hTe
  go_enter Try.func38, Try.ntmps38
  go_wp2
  go_loopw [3] (fun v3 wr => ∃ left, Rng vS vP wr s.m w.heap.size s.l left ∧ (∀ x ∈ left, x ∈ s.l) ∧ sumF s.fs left ≤ T ∧ v3 = .int .i64 (T - sumF s.fs left : Nat) ∧ Ext w wr) (fun _ wr => rngLeft wr s.m w.heap.size)
  case atStart => exact ⟨s.l, hR, fun x hx => hx, by rw [HT.out]; exact Nat.le_refl _, by rw [HT.out, Nat.sub_self]; rfl, (Ext.refl w).alloc _⟩
  case round =>
    obtain ⟨left, hRl, hsub, hle, rfl, hE⟩ := hrel
    have HL := hid hRl.left_eq
    rcases hRl.next (P := Try.prog) with ⟨h0, hn⟩ | ⟨a, x, c, w', hl, hn, hR', ⟨w1, o1, hw1, hw'⟩, he⟩
    · subst h0
      clear hsub hle hR hRl
      go_wp2
      go_ret
      exact ⟨by simp [sumF], hE⟩
    · have hE' : Ext w w' := by
        rw [hw']
        refine Ext.setBlock ?_ (Nat.le_refl _) _
        rcases hw1 with rfl | rfl
        · exact hE
        · exact hE.drew
      have hm' : rngLeft w' s.m w.heap.size < rngLeft wr s.m w.heap.size := by
        rw [hR'.left_eq, HL.out, hl]
        simp
      subst hl
      rw [sumF_mid] at hle ⊢
      have hx : x ∈ s.l := hsub x (by simp)
      obtain ⟨e0, e1⟩ := (HD.out.ext hE').ecells hx
      obtain ⟨ax, gx, ox, cx, hvx, hcx, _, _⟩ := ((HD.out.ext hE').own x hx).rd
      rw [hvx] at e0
      have HS := hid (show ∀ y ∈ a ++ c, y ∈ s.l from fun y hy => hsub y (by simp at hy ⊢; rcases hy with h | h; exact Or.inl h; exact Or.inr (Or.inr h)))
      have HR := hid hR'
      have HE := hid hE'
      have HM := hid hm'
      generalize (s.fs x.2).bs.length = bl at *
      obtain ⟨sl, hsl⟩ : ∃ sl, sl = sumF s.fs (a ++ c) := ⟨_, rfl⟩
      rw [← hsl] at hle ⊢
      have HSL := hid hsl
      have hsum : ((T - (sl + bl) : Nat) : Int) + (bl : Int) = ((T - sl : Nat) : Int) := by omega
      have HSUM := hid hsum
      have HLE := hid hle
      simp only [vS, vP] at hn he
      clear hsub hR hRl hR' hE' hm' hw' hw1 hx hvx hE hsum hsl
      go_wp2
      go_roundw
      case rel => exact ⟨a ++ c, HR.out, HS.out, by rw [← HSL.out]; omega, by rw [← HSL.out, HSUM.out], HE.out⟩
      case measure => exact HM.out

set_option maxRecDepth 100000 in
set_option maxHeartbeats 1600000 in
theorem DiskUsed_any (w : World) (p : Nat) (s : DkS) (h : Dk w p s) (hT : totL s.abs.l ≤ 1073741824) : Calls Try.prog 20 #[.pointer (some ⟨p, 0, none⟩)] w fun e w' => e = .returned (.int .i64 (if s.down then 0 else totL s.abs.l : Nat)) ∧ Ext w w' := by
  obtain ⟨c0, c1, c2, c3⟩ := h.cells
  have hC := total_any w p s h (by rw [sumF_abs]; exact hT)
  have HC := hid hC
  clear hC
  cases hdn : s.down with
  | true =>
    rw [hdn] at c3
    clear h hdn
    go_enter Try.func20, Try.ntmps20
    go_wp2
    go_ret
    exact ⟨rfl, Ext.refl _⟩
  | false =>
    rw [hdn] at c3
    clear h hdn
    go_enter Try.func20, Try.ntmps20
    go_wp2_with fail
    refine HC.out.mono ?_
    rintro e w2 ⟨rfl, hE⟩
    have HE := hid hE
    clear hE
    go_wp2
    go_ret
    exact ⟨rfl, HE.out⟩
end Go.Proofs.Ytopabknlgmihpaa
