/- log.first, replace and its steps, Write. -/
import Derived.Test.YtopabknlgmihpaaLogJ
namespace Go.Proofs.Ytopabknlgmihpaa
open Go Go.RowKit Go.MapKept Go.ChangeMaps Go.Maps

theorem sizeFn : ∀ W, (sizeOf 61).run Try.prog W = .ok 1 W := fun W => by kernel_rfl
/-- A step: what it calls, what that holds, what it makes of a disk. -/
structure StepF where
  K : Nat
  cap : Array Value
  f : AD → AD × Int
def encF (x : StepF) : List Value := [.func (.func x.K) #[] x.cap]
theorem RdF {w : World} {a : Option Addr} {g off : Nat} {l : List StepF} (h : RdS encF 1 w a g off l) {k : Nat} {x : StepF} (hk : l[k]? = some x) : w.cell? ⟨g, off + k, none⟩ = some (.func (.func x.K) #[] x.cap) := by
  have := h.cells k x hk 0 _ rfl
  simpa using this
theorem indexF {w : World} {a : Option Addr} {g off : Nat} {l : List StepF} (h : RdS encF 1 w a g off l) {i : Nat} (hi : i < l.length) (cap : Nat) (W : World) :
    (Instr.indexAt 126 (.slice a l.length cap) (.int .i64 i)).run Try.prog W = .ok (.pointer (some ⟨g, off + i, none⟩)) W := by
  have := h.index (P := Try.prog) Try.underlying126 sizeFn hi cap W
  simpa using this
set_option maxRecDepth 100000 in
set_option maxHeartbeats 3200000 in
theorem first_any (w : World) (a : Option Addr) (g off cap : Nat) (fs : List StepF) (S : AD → World → Prop) (d : AD) (hS : S d w) (hl : fs.length ≤ 1000)
    (hrd : ∀ d W, S d W → RdS encF 1 W a g off fs) (heg : ∀ x ∈ fs, ∀ args W, (callFunc x.K args).run Try.prog W = .ok (.enter x.K args) W)
    (hst : ∀ x ∈ fs, ∀ d W, S d W → Calls Try.prog x.K x.cap W fun e W' => e = .returned (.int .i64 (x.f d).2) ∧ S (x.f d).1 W') :
    Calls Try.prog 81 #[.slice a fs.length cap] w fun e W' => e = .returned (.int .i64 (firstA (fs.map (fun x => x.f)) d).2) ∧ S (firstA (fs.map (fun x => x.f)) d).1 W' := by
  have HS := hid hS
  have HRD := hid hrd
  have HEG := hid heg
  have HST := hid hst
  obtain ⟨r, hr⟩ : ∃ r, r = firstA (fs.map (fun x => x.f)) d := ⟨_, rfl⟩
  rw [← hr]
  have HR := hid hr
  clear hS hrd heg hst hr
  go_enter Try.func81, Try.ntmps81
  go_wp2_with fail
  go_loopw [8] (fun s8 wr => ∃ (k : Nat) (d' : AD), k ≤ fs.length ∧ s8 = .int .i64 k ∧ S d' wr ∧ firstA ((fs.drop k).map (fun x => x.f)) d' = r) (fun s8 _ => fs.length - (intOf s8).toNat)
  case atStart => exact ⟨0, d, Nat.zero_le _, rfl, HS.out, HR.out.symm⟩
  case round =>
    obtain ⟨k, d', hk, rfl, hS', hf⟩ := hrel
    by_cases hlt : k < fs.length
    · have hx := indexF (HRD.out d' wr hS') hlt cap
      have hget : fs[k]? = some fs[k] := by simp [hlt]
      have c0 := RdF (HRD.out d' wr hS') hget
      have hmem : fs[k] ∈ fs := List.getElem_mem hlt
      rw [List.drop_eq_getElem_cons hlt, List.map_cons] at hf
      generalize fs[k] = x at *
      have eg := HEG.out x hmem
      have HC := hid (HST.out x hmem d' wr hS')
      obtain ⟨K1, cp, f1⟩ := x
      simp only at hf eg c0 HC
      obtain ⟨y, hy⟩ : ∃ y, y = (f1 d').2 := ⟨_, rfl⟩
      obtain ⟨d2, hd2⟩ : ∃ d2, d2 = (f1 d').1 := ⟨_, rfl⟩
      rw [← hy, ← hd2] at HC
      have hfd : f1 d' = (d2, y) := by rw [hy, hd2]
      have HFD := hid (And.intro hf hfd)
      clear hf hfd hy hd2 hmem hget hS' HS HR
      go_wp2_with fail
      refine HC.out.mono ?_
      rintro e w2 ⟨rfl, hS2⟩
      have HS2 := hid hS2
      clear hS2 HC c0 hx eg
      by_cases hy0 : y = 0
      · subst hy0
        have HN := hid ((firstA_zero HFD.out.2).symm.trans HFD.out.1)
        clear HFD
        go_wp2_with fail
        go_roundw
        case rel => exact ⟨k + 1, d2, by omega, by go_num, HS2.out, HN.out⟩
        case measure => simp [intOf]; omega
      · have HN := hid ((firstA_fail HFD.out.2 hy0).symm.trans HFD.out.1)
        clear HFD
        go_wp2
        go_ret
        exact ⟨by rw [← HN.out]; rfl, by rw [← HN.out]; exact HS2.out⟩
    · have hke : k = fs.length := by omega
      have HN := hid (show (d', (0 : Int)) = r from by rw [hke, List.drop_length] at hf; exact hf)
      have HS2 := hid hS'
      clear hf hS' HS HR
      go_wp2
      go_ret
      exact ⟨by rw [← HN.out]; rfl, by rw [← HN.out]; exact HS2.out⟩
set_option maxRecDepth 100000 in
set_option maxHeartbeats 3200000 in
theorem rep1_any (w : World) (pd pn p : Nat) (s : DkS) (n : SKey) (hD : Dk w p s) (hG : s.abs.Good) (kd : w.cell? ⟨pd, 0, none⟩ = some (.pointer (some ⟨p, 0, none⟩))) (kn : w.cell? ⟨pn, 0, none⟩ = some (.string n.1)) :
    Calls Try.prog 77 #[.pointer (some ⟨pd, 0, none⟩), .pointer (some ⟨pn, 0, none⟩)] w fun e w' => ∃ x, e = .returned (.int .i64 (nil8 x)) ∧ DkPost w p s (deedA (removeA n) s.abs) x w' := by
  have HC := hid (DiskRemove_any w p s n hD hG)
  clear hD hG
  go_enter Try.func77, Try.ntmps77
  go_wp2_with fail
  refine HC.out.mono ?_
  rintro e w2 ⟨x, rfl, hx⟩
  have HX := hid hx
  clear hx HC
  by_cases h8 : x = 8
  · subst h8
    go_wp2
    go_ret
    exact ⟨8, rfl, HX.out⟩
  · go_wp2
    go_ret
    exact ⟨x, by unfold nil8; rw [if_neg h8]; rfl, HX.out⟩
set_option maxRecDepth 100000 in
set_option maxHeartbeats 3200000 in
theorem rep2_any (w : World) (pd pn p : Nat) (s : DkS) (n : SKey) (hD : Dk w p s) (hG : s.abs.Good) (kd : w.cell? ⟨pd, 0, none⟩ = some (.pointer (some ⟨p, 0, none⟩))) (kn : w.cell? ⟨pn, 0, none⟩ = some (.string n.1)) (pb : Nat) (a : Option Addr) (g off cap : Nat) (b : List UInt8) (kb : w.cell? ⟨pb, 0, none⟩ = some (.slice a b.length cap)) (hb : RdS encB 1 w a g off b) (hbl : b.length ≤ 1073741824) (hbs : b ≠ [] → ¬ s.Blk p g) :
    Calls Try.prog 78 #[.pointer (some ⟨pd, 0, none⟩), .pointer (some ⟨pn, 0, none⟩), .pointer (some ⟨pb, 0, none⟩)] w (IntR (DkPost w p s (deedA (appendA n b) s.abs))) := by
  have HC := hid (DiskAppend_any w p s n a g off cap b hD hG hb hbl hbs)
  clear hD hG
  go_enter Try.func78, Try.ntmps78
  go_wp2_with fail
  refine HC.out.mono ?_
  rintro e w2 ⟨x, rfl, hx⟩
  have HX := hid hx
  clear hx HC
  go_wp2
  go_ret
  exact IntR.mk HX.out
set_option maxRecDepth 100000 in
set_option maxHeartbeats 3200000 in
theorem rep3_any (w : World) (pd pn p : Nat) (s : DkS) (n : SKey) (hD : Dk w p s) (hG : s.abs.Good) (kd : w.cell? ⟨pd, 0, none⟩ = some (.pointer (some ⟨p, 0, none⟩))) (kn : w.cell? ⟨pn, 0, none⟩ = some (.string n.1))  :
    Calls Try.prog 79 #[.pointer (some ⟨pd, 0, none⟩), .pointer (some ⟨pn, 0, none⟩)] w (IntR (DkPost w p s (deedA (syncA n) s.abs))) := by
  have HC := hid (DiskSync_any w p s n hD hG)
  clear hD hG
  go_enter Try.func79, Try.ntmps79
  go_wp2_with fail
  refine HC.out.mono ?_
  rintro e w2 ⟨x, rfl, hx⟩
  have HX := hid hx
  clear hx HC
  go_wp2
  go_ret
  exact IntR.mk HX.out
set_option maxRecDepth 100000 in
set_option maxHeartbeats 3200000 in
theorem rep4_any (w : World) (pd pn p : Nat) (s : DkS) (n : SKey) (hD : Dk w p s) (hG : s.abs.Good) (kd : w.cell? ⟨pd, 0, none⟩ = some (.pointer (some ⟨p, 0, none⟩))) (kn : w.cell? ⟨pn, 0, none⟩ = some (.string n.1)) (pt : Nat) (t : SKey) (kt : w.cell? ⟨pt, 0, none⟩ = some (.string t.1)) :
    Calls Try.prog 80 #[.pointer (some ⟨pd, 0, none⟩), .pointer (some ⟨pn, 0, none⟩), .pointer (some ⟨pt, 0, none⟩)] w (IntR (DkPost w p s (deedA (moveA n t) s.abs))) := by
  have HC := hid (DiskMove_any w p s n t hD hG)
  clear hD hG
  go_enter Try.func80, Try.ntmps80
  go_wp2_with fail
  refine HC.out.mono ?_
  rintro e w2 ⟨x, rfl, hx⟩
  have HX := hid hx
  clear hx HC
  go_wp2
  go_ret
  exact IntR.mk HX.out
/-- While a file is replaced: the disk, and what the steps hold. -/
structure RepS (w0 w5 : World) (p H g : Nat) (b : List UInt8) (d : AD) (W : World) : Prop where
  ex : ∃ s, LS w0 W p d s ∧ (∀ B, H ≤ B → B < H + 5 → ¬ s.Blk p B ∧ W.heap[B]? = w5.heap[B]?) ∧ (b ≠ [] → ¬ s.Blk p g ∧ W.heap[g]? = w5.heap[g]?)
  sz : w5.heap.size ≤ W.heap.size
theorem LS.stepB {w0 w w' : World} {p : Nat} {d d' : AD} {s : DkS} {x y : Int} {f : AD → AD × Int} (h : LS w0 w p d s) (hp : DkPost w p s (deedA f s.abs) x w') (he : deedA f d = (d', y)) (hg : d'.Good) :
    ∃ s', LS w0 w' p d' s' ∧ x = y ∧ w.heap.size ≤ w'.heap.size ∧ ∀ B, B < w.heap.size → ¬ s.Blk p B → ¬ s'.Blk p B ∧ w'.heap[B]? = w.heap[B]? := by
  rw [h.abs, he] at hp
  obtain ⟨s', hD, ha, hx, hb, hk⟩ := hp
  refine ⟨s', ⟨hD, ha, hg, fun g hg => (hb g hg).elim (h.blk g) (fun h1 => Nat.le_trans h.bel.size h1), h.bel.trans (hk.below (B := w0.heap.size) h.bel.size h.blk)⟩, hx, hk.size, fun B hB hn => ⟨fun hx => ?_, hk.block B hB hn⟩⟩
  rcases hb B hx with h1 | h1
  · exact hn h1
  · omega
theorem RepS.step {w0 w5 W W' : World} {p H g : Nat} {b : List UInt8} {d : AD} (hH : H + 5 ≤ w5.heap.size) (hgl : b ≠ [] → g < w5.heap.size) {s : DkS} {x : Int} {f : AD → AD × Int} (hsz : w5.heap.size ≤ W.heap.size) (hL : LS w0 W p d s) (hc : ∀ B, H ≤ B → B < H + 5 → ¬ s.Blk p B ∧ W.heap[B]? = w5.heap[B]?) (hg : b ≠ [] → ¬ s.Blk p g ∧ W.heap[g]? = w5.heap[g]?)
    (hp : DkPost W p s (deedA f s.abs) x W') (hgood : (deedA f d).1.Good) : x = (deedA f d).2 ∧ RepS w0 w5 p H g b (deedA f d).1 W' := by
  obtain ⟨s', h1, h2, h3, h4⟩ := hL.stepB hp (show deedA f d = ((deedA f d).1, (deedA f d).2) from rfl) hgood
  refine ⟨h2, ⟨s', h1, fun B hB1 hB2 => ?_, fun hn => ?_⟩, by omega⟩
  · obtain ⟨k1, k2⟩ := hc B hB1 hB2
    obtain ⟨k3, k4⟩ := h4 B (by omega) k1
    exact ⟨k3, k4.trans k2⟩
  · obtain ⟨k1, k2⟩ := hg hn
    obtain ⟨k3, k4⟩ := h4 g (by have := hgl hn; omega) k1
    exact ⟨k3, k4.trans k2⟩
theorem box_cell {W w5 : World} {B : Nat} {v : Value} {e : TypeId} (h : W.heap[B]? = w5.heap[B]?) (h5 : w5.heap[B]? = some (.cells #[v] e (0, 0))) : W.cell? ⟨B, 0, none⟩ = some v := by
  simp [World.cell?, h, h5]
theorem RdF.of {w : World} {g : Nat} {fs : List StepF} {e : TypeId} (h : w.heap[g]? = some (.cells (fs.flatMap encF).toArray e (0, 0))) : RdS encF 1 w (some ⟨g, 0, none⟩) g 0 fs := by
  refine ⟨fun _ => rfl, fun _ => (Array.getElem?_eq_some_iff.1 h).1, fun i x hx j y hy => ?_⟩
  have hj : j = 0 := by have := (List.getElem?_eq_some_iff.1 hy).1; simp [encF] at this; exact this
  subst hj
  have h2 : fs.flatMap encF = fs.map (fun x => Value.func (.func x.K) #[] x.cap) := by
    clear hx h
    induction fs with
    | nil => rfl
    | cons a r ih => rw [List.flatMap_cons, ih]; rfl
  have h3 : (fs.flatMap encF)[i]? = some y := by
    rw [h2, List.getElem?_map, hx]
    simp only [encF, List.getElem?_cons_zero, Option.some.injEq] at hy
    rw [← hy]
    rfl
  have he : 0 + i * 1 + 0 = i := by omega
  rw [he]
  unfold World.cell?
  simp only
  rw [h]
  simpa using h3
/-- The four steps. -/
def stepsF (H : Nat) (b : List UInt8) : List StepF := [⟨77, #[.pointer (some ⟨H, 0, none⟩), .pointer (some ⟨H + 3, 0, none⟩)], wipeA nF⟩, ⟨78, #[.pointer (some ⟨H, 0, none⟩), .pointer (some ⟨H + 3, 0, none⟩), .pointer (some ⟨H + 2, 0, none⟩)], deedA (appendA nF b)⟩, ⟨79, #[.pointer (some ⟨H, 0, none⟩), .pointer (some ⟨H + 3, 0, none⟩)], deedA (syncA nF)⟩, ⟨80, #[.pointer (some ⟨H, 0, none⟩), .pointer (some ⟨H + 3, 0, none⟩), .pointer (some ⟨H + 1, 0, none⟩)], deedA (moveA nF nL)⟩]
set_option maxRecDepth 100000 in
set_option maxHeartbeats 3200000 in
theorem first4_any (w0 w w5 : World) (p : Nat) (d : AD) (s : DkS) (hL : LS w0 w p d s) (a : Option Addr) (g off cap : Nat) (b : List UInt8) (hb : RdS encB 1 w a g off b) (hbl : b.length ≤ 1073741824) (hbs : b ≠ [] → ¬ s.Blk p g) (hE : Below w.heap.size w w5)
    {e0 e1 e2 e3 e4 : TypeId} (h0 : w5.heap[w.heap.size]? = some (.cells #[.pointer (some ⟨p, 0, none⟩)] e0 (0, 0))) (h1 : w5.heap[w.heap.size + 1]? = some (.cells #[.string nL.1] e1 (0, 0))) (h2 : w5.heap[w.heap.size + 2]? = some (.cells #[.slice a b.length cap] e2 (0, 0))) (h3 : w5.heap[w.heap.size + 3]? = some (.cells #[.string nF.1] e3 (0, 0)))
    (h4 : w5.heap[w.heap.size + 4]? = some (.cells ((stepsF w.heap.size b).flatMap encF).toArray e4 (0, 0))) :
    Calls Try.prog 81 #[.slice (some ⟨w.heap.size + 4, 0, none⟩) 4 4] w5 fun e w' => e = .returned (.int .i64 (replaceA nL nF b d).2) ∧ LD w0 w' p (replaceA nL nF b d).1 := by
  have hsz : w.heap.size + 5 ≤ w5.heap.size := (Array.getElem?_eq_some_iff.1 h4).1
  have hgl : b ≠ [] → g < w5.heap.size := fun hn => by have := hb.lt hn; omega
  have hb5 := hb.below hE
  have hS0 : RepS w0 w5 p w.heap.size g b d w5 := ⟨⟨s, ⟨hL.dk.below hE, hL.abs, hL.good, hL.blk, hL.bel.trans (hE.mono hL.bel.size)⟩, fun B hB1 hB2 => ⟨fun hx => by have := hL.dk.lt B hx; omega, rfl⟩, fun hn => ⟨hbs hn, rfl⟩⟩, Nat.le_refl _⟩
  refine (first_any w5 (some ⟨w.heap.size + 4, 0, none⟩) (w.heap.size + 4) 0 4 (stepsF w.heap.size b) (RepS w0 w5 p w.heap.size g b) d hS0 (by unfold stepsF; simp) ?_ ?_ ?_).mono ?_
  · rintro d' W ⟨⟨s', _, hc, _⟩, hz⟩
    exact (RdF.of h4).same hz (fun _ => (hc (w.heap.size + 4) (by omega) (by omega)).2)
  · intro x hx args W
    unfold stepsF at hx
    simp only [List.mem_cons, List.not_mem_nil, or_false] at hx
    rcases hx with rfl | rfl | rfl | rfl
    · exact enters_of Try.func77 (by kernel_rfl) rfl args W
    · exact enters_of Try.func78 (by kernel_rfl) rfl args W
    · exact enters_of Try.func79 (by kernel_rfl) rfl args W
    · exact enters_of Try.func80 (by kernel_rfl) rfl args W
  · rintro x hx d' W ⟨⟨s', hL', hc, hg⟩, hz⟩
    have hGd : s'.abs.Good := by rw [hL'.abs]; exact hL'.good
    have k0 := box_cell (hc w.heap.size (Nat.le_refl _) (by omega)).2 h0
    have k1 := box_cell (hc (w.heap.size + 1) (by omega) (by omega)).2 h1
    have k2 := box_cell (hc (w.heap.size + 2) (by omega) (by omega)).2 h2
    have k3 := box_cell (hc (w.heap.size + 3) (by omega) (by omega)).2 h3
    unfold stepsF at hx
    simp only [List.mem_cons, List.not_mem_nil, or_false] at hx
    rcases hx with rfl | rfl | rfl | rfl
    · refine (rep1_any W w.heap.size (w.heap.size + 3) p s' nF hL'.dk hGd k0 k3).mono ?_
      rintro e W' ⟨x, rfl, hx⟩
      obtain ⟨hxe, hR⟩ := RepS.step hsz hgl hz hL' hc hg hx (hL'.good.deed (fun e he => he.remove nF))
      subst hxe
      exact ⟨rfl, hR⟩
    · refine (rep2_any W w.heap.size (w.heap.size + 3) p s' nF hL'.dk hGd k0 k3 (w.heap.size + 2) a g off cap b k2 (hb5.same hz (fun hn => (hg hn).2)) hbl (fun hn => (hg hn).1)).mono ?_
      rintro e W' ⟨x, rfl, hx⟩
      obtain ⟨hxe, hR⟩ := RepS.step hsz hgl hz hL' hc hg hx (hL'.good.deed (fun e he => he.append nF b))
      subst hxe
      exact ⟨rfl, hR⟩
    · refine (rep3_any W w.heap.size (w.heap.size + 3) p s' nF hL'.dk hGd k0 k3).mono ?_
      rintro e W' ⟨x, rfl, hx⟩
      obtain ⟨hxe, hR⟩ := RepS.step hsz hgl hz hL' hc hg hx (hL'.good.deed (fun e he => he.sync nF))
      subst hxe
      exact ⟨rfl, hR⟩
    · refine (rep4_any W w.heap.size (w.heap.size + 3) p s' nF hL'.dk hGd k0 k3 (w.heap.size + 1) nL k1).mono ?_
      rintro e W' ⟨x, rfl, hx⟩
      obtain ⟨hxe, hR⟩ := RepS.step hsz hgl hz hL' hc hg hx (hL'.good.deed (fun e he => he.move nF nL))
      subst hxe
      exact ⟨rfl, hR⟩
  · rintro e W' ⟨rfl, ⟨⟨s', hL', _, _⟩, _⟩⟩
    exact ⟨rfl, s', hL'⟩
/-- The world in which the steps are called. -/
def repB (w : World) (p : Nat) (v : Value) : World := (((w.alloc (.cells #[.pointer (some ⟨p, 0, none⟩)] 24)).alloc (.cells #[.string nL.1] 9)).alloc (.cells #[v] 22)).alloc (.cells #[.string nF.1] 9)
def repW (w : World) (p : Nat) (v : Value) (b : List UInt8) : World := (repB w p v).alloc (.cells ((stepsF w.heap.size b).flatMap encF).toArray 61)
theorem repB_size (w : World) (p : Nat) (v : Value) : (repB w p v).heap.size = w.heap.size + 4 := by unfold repB; simp
theorem repB_ext (w : World) (p : Nat) (v : Value) : Ext w (repB w p v) := ((((Ext.refl w).alloc _).alloc _).alloc _).alloc _
theorem repW_below (w : World) (p : Nat) (v : Value) (b : List UInt8) : Below w.heap.size w (repW w p v b) := ((repB_ext w p v).alloc _).below
theorem repW_old (w : World) (p : Nat) (v : Value) (b : List UInt8) {i : Nat} (h : i < w.heap.size + 4) : (repW w p v b).heap[i]? = (repB w p v).heap[i]? := alloc_old _ _ (by rw [repB_size]; exact h)
theorem repW_0 (w : World) (p : Nat) (v : Value) (b : List UInt8) : (repW w p v b).heap[w.heap.size]? = some (.cells #[.pointer (some ⟨p, 0, none⟩)] 24 (0, 0)) := by
  rw [repW_old _ _ _ _ (by omega)]
  unfold repB
  rw [alloc_old _ _ (by simp <;> omega), alloc_old _ _ (by simp <;> omega), alloc_old _ _ (by simp)]
  exact heap_alloc_new w _
theorem repW_1 (w : World) (p : Nat) (v : Value) (b : List UInt8) : (repW w p v b).heap[w.heap.size + 1]? = some (.cells #[.string nL.1] 9 (0, 0)) := by
  rw [repW_old _ _ _ _ (by omega)]
  unfold repB
  rw [alloc_old _ _ (by simp <;> omega), alloc_old _ _ (by simp)]
  have := heap_alloc_new (w.alloc (.cells #[.pointer (some ⟨p, 0, none⟩)] 24)) (.cells #[.string nL.1] 9)
  rwa [World.size_alloc] at this
theorem repW_2 (w : World) (p : Nat) (v : Value) (b : List UInt8) : (repW w p v b).heap[w.heap.size + 2]? = some (.cells #[v] 22 (0, 0)) := by
  rw [repW_old _ _ _ _ (by omega)]
  unfold repB
  rw [alloc_old _ _ (by simp)]
  have := heap_alloc_new ((w.alloc (.cells #[.pointer (some ⟨p, 0, none⟩)] 24)).alloc (.cells #[.string nL.1] 9)) (.cells #[v] 22)
  rwa [World.size_alloc, World.size_alloc] at this
theorem repW_3 (w : World) (p : Nat) (v : Value) (b : List UInt8) : (repW w p v b).heap[w.heap.size + 3]? = some (.cells #[.string nF.1] 9 (0, 0)) := by
  rw [repW_old _ _ _ _ (by omega)]
  unfold repB
  have := heap_alloc_new (((w.alloc (.cells #[.pointer (some ⟨p, 0, none⟩)] 24)).alloc (.cells #[.string nL.1] 9)).alloc (.cells #[v] 22)) (.cells #[.string nF.1] 9)
  rwa [World.size_alloc, World.size_alloc, World.size_alloc] at this
theorem repW_4 (w : World) (p : Nat) (v : Value) (b : List UInt8) : (repW w p v b).heap[w.heap.size + 4]? = some (.cells ((stepsF w.heap.size b).flatMap encF).toArray 61 (0, 0)) := by
  unfold repW
  have := heap_alloc_new (repB w p v) (.cells ((stepsF w.heap.size b).flatMap encF).toArray 61)
  rwa [repB_size] at this
set_option maxRecDepth 100000 in
set_option maxHeartbeats 3200000 in
theorem replace_any (w0 w : World) (p : Nat) (d : AD) (s : DkS) (hL : LS w0 w p d s) (a : Option Addr) (g off cap : Nat) (b : List UInt8) (hb : RdS encB 1 w a g off b) (hbl : b.length ≤ 1073741824) (hbs : b ≠ [] → ¬ s.Blk p g) :
    Calls Try.prog 57 #[.pointer (some ⟨p, 0, none⟩), .string nL.1, .slice a b.length cap] w fun e w' => e = .returned (.int .i64 (replaceA nL nF b d).2) ∧ LD w0 w' p (replaceA nL nF b d).1 := by
  have hmf : ∀ (fn : Fn) (first cap : Array Value) (w : World), (Instr.makeFunc fn first cap).run Try.prog w = .ok (.func fn first cap) w := fun _ _ _ _ => rfl
  have hcat : nL.1 ++ (⟨#[46, 102, 105, 120]⟩ : ByteArray) = nF.1 := by decide
  have HF := hid (first4_any w0 w (repW w p (.slice a b.length cap) b) p d s hL a g off cap b hb hbl hbs (repW_below _ _ _ _) (repW_0 _ _ _ _) (repW_1 _ _ _ _) (repW_2 _ _ _ _) (repW_3 _ _ _ _) (repW_4 _ _ _ _))
  clear hL hb hbs
  go_enter Try.func57, Try.ntmps57
  go_wp2_with fail
  refine HF.out.mono ?_
  rintro e w2 ⟨rfl, hD⟩
  have HD := hid hD
  clear hD HF
  go_wp2
  go_ret
  exact ⟨rfl, HD.out⟩
theorem formsB_map (l : List BS) : l.flatMap (fun x => formB x.bs) = (l.map (fun x => x.bs)).flatMap formB := by
  induction l with
  | nil => rfl
  | cons a r ih => rw [List.flatMap_cons, List.map_cons, List.flatMap_cons, ih]
set_option maxRecDepth 100000 in
set_option maxHeartbeats 3200000 in
theorem Write_any (w0 w : World) (p : Nat) (d : AD) (hL : LD w0 w p d) (a : Option Addr) (g off cap : Nat) (l : List BS) (hA : RdS encBS 1 w a g off l) (hO : ∀ x ∈ l, OkBS w x) (hs : ∀ x ∈ l, x.bs.length ≤ 100) (hl : l.length ≤ 10) :
    Calls Try.prog 34 #[.pointer (some ⟨p, 0, none⟩), .string nL.1, .slice a l.length cap] w fun e w' => e = .returned (.int .i64 (replaceA nL nF ((l.map (fun x => x.bs)).flatMap formB) d).2) ∧ LD w0 w' p (replaceA nL nF ((l.map (fun x => x.bs)).flatMap formB) d).1 := by
  obtain ⟨s, hL⟩ := hL
  have HL := hid hL
  have HA := hid hA
  have HO := hid hO
  have HSM := hid hs
  have hlen : ∀ k, ((l.take k).flatMap (fun x => formB x.bs)).length ≤ 2000 := fun k => by
    rw [formsB_map]
    have h1 := forms_le (l := (l.take k).map (fun x => x.bs)) (fun p hp => by
      obtain ⟨x, hx, rfl⟩ := List.mem_map.1 hp
      exact hs x (List.mem_of_mem_take hx))
    rw [List.length_map, List.length_take] at h1
    omega
  have HLEN := hid hlen
  have HF := hid (formsB_map l)
  clear hL hA hO hs hlen
  go_enter Try.func34, Try.ntmps34
  go_wp2_with fail
  go_loopw [7, 16] (fun s7 s16 wr => ∃ (k : Nat) (v7 : Value), k ≤ l.length ∧ s16 = .int .i64 k ∧ v7 = s7 ∧ OwnB wr v7 ((l.take k).flatMap (fun x => formB x.bs)) ∧ (∀ g, v7.ownBlock = some g → w.heap.size ≤ g) ∧ Below w.heap.size w wr) (fun _ s16 _ => l.length - (intOf s16).toNat)
  case atStart => exact ⟨0, .slice none 0 0, Nat.zero_le _, rfl, rfl, OwnB.nil _, (fun g hg => by cases hg), Below.refl _ _⟩
  case round =>
    obtain ⟨k, v7, hk, rfl, rfl, hown, hfr, hbl⟩ := hrel
    by_cases hlt : k < l.length
    · have hx := indexBS HA.out hlt cap
      have hget : l[k]? = some l[k] := by simp [hlt]
      have c0 := RdBS (HA.out.below hbl) hget
      have hmem : l[k] ∈ l := List.getElem_mem hlt
      have hok := (HO.out _ hmem).below hbl
      have hxl := HSM.out _ hmem
      have hsn : (l.take (k + 1)).flatMap (fun x => formB x.bs) = (l.take k).flatMap (fun x => formB x.bs) ++ formB l[k].bs := by rw [List.take_succ_eq_append_getElem hlt, List.flatMap_append]; simp
      have h1 := HLEN.out (k + 1)
      rw [hsn, List.length_append] at h1
      have HFS := hid hsn
      generalize l[k] = x at *
      have HFM := hid (Form_any wr x hok (by omega))
      have HOW := hid hown
      have HBL := hid hbl
      have HFR := hid hfr
      clear hget hok hown hbl hfr hmem hsn hxl
      go_wp2_with fail
      refine HFM.out.mono ?_
      rintro e w3 ⟨v3, rfl, ho3, hf3, hb3⟩
      obtain ⟨a3, g3, o3, c3, rfl, hc3, hr3, _⟩ := ho3.rd
      have HS := hid (Src.ofRd (cap := c3) hr3)
      have HOW3 := hid (HOW.out.below hb3)
      have HBL3 := hid (HBL.out.trans (hb3.mono HBL.out.size))
      clear ho3 hf3 hr3 hb3 HFM c0
      go_wp2_with (at_builtin; go_must (refine wpList_append_B rfl _ _ rfl v7 ((l.take k).flatMap (fun x => formB x.bs)) (formB x.bs) rfl HOW3.out _ rfl HS.out (by omega) ?_))
      intro v' w' hown' hgrow hat
      have HB4 := hid (show Below w.heap.size w w' from HBL3.out.grown hgrow HBL3.out.size (fun g hg => HFR.out g hg))
      have HO4 := hid hown'
      have HA4 := hid (show ∀ g, v'.ownBlock = some g → w.heap.size ≤ g from fun g hg => by
        rcases hat with h | h
        · rw [h] at hg; exact HFR.out g hg
        · rw [h] at hg; have := HBL3.out.size; simp at hg; omega)
      clear hown' hgrow hat
      go_wp2
      go_roundw
      case rel => exact ⟨k + 1, _, by omega, by go_num, rfl, by rw [HFS.out]; exact HO4.out, HA4.out, HB4.out⟩
      case measure => simp [intOf]; omega
    · have hk' : l.take k = l := List.take_of_length_le (by omega)
      have h1 := HLEN.out k
      rw [hk'] at hown h1
      rw [HF.out] at hown h1
      obtain ⟨b, hbe⟩ : ∃ b, b = (l.map (fun x => x.bs)).flatMap formB := ⟨_, rfl⟩
      rw [← hbe] at hown h1
      have HBE := hid hbe
      obtain ⟨a3, g3, o3, c3, hv3, hc3, hr3, _⟩ := hown.rd
      have hbs : b ≠ [] → ¬ s.Blk p g3 := fun hn hx => by
        have h2 := hfr g3 (by rw [hv3, hr3.some hn]; rfl)
        have := HL.out.dk.lt g3 hx
        omega
      have hLr : LS w0 wr p d s := ⟨HL.out.dk.below hbl, HL.out.abs, HL.out.good, HL.out.blk, HL.out.bel.trans (hbl.mono HL.out.bel.size)⟩
      have HR := hid (replace_any w0 wr p d s hLr a3 g3 o3 c3 b hr3 (by omega) hbs)
      subst hv3
      clear hk' hown hfr hbl hc3 hr3 hbs hLr h1 hbe
      go_wp2_with fail
      refine HR.out.mono ?_
      rintro e w4 ⟨rfl, hD⟩
      have HD := hid hD
      clear hD HR
      go_wp2
      go_ret
      exact ⟨by rw [← HBE.out]; rfl, by rw [← HBE.out]; exact HD.out⟩
set_option maxRecDepth 100000 in
set_option maxHeartbeats 3200000 in
theorem Write_none (w : World) (t : Value) (v : Value) : Calls Try.prog 34 #[.pointer none, t, v] w fun e w' => e = .returned (.int .i64 1) ∧ w' = w := by
  go_enter Try.func34, Try.ntmps34
  go_wp2
  go_ret
  exact ⟨rfl, rfl⟩
end Go.Proofs.Ytopabknlgmihpaa
