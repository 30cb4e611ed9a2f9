/- The disk's example, and the laws without the document's answer: moves, cuts, keeps. -/
import Derived.Test.YtopabknlgmihpaaDiskE
import Derived.Lib.SlBytesConst
import Derived.IntWalk
import Derived.Test.YtopabknlgmihpaaRegion
namespace Go.Proofs.Ytopabknlgmihpaa
open Go Go.RowKit Go.MapKept Go.ChangeMaps Go.Maps Go.Sort

/-- One deed behind another: the disk's own blocks are new, what was there reads as before. -/
theorem DkPost.step {w0 w w' : World} {p : Nat} {s : DkS} {r : AD × Int} {x : Int} (h : DkPost w p s r x w') (hbel : Below w0.heap.size w0 w) (hB : ∀ g, s.Blk p g → w0.heap.size ≤ g) {d : AD} {y : Int} (hr : r = (d, y)) :
    ∃ s', Dk w' p s' ∧ s'.abs = d ∧ x = y ∧ (∀ g, s'.Blk p g → w0.heap.size ≤ g) ∧ Below w0.heap.size w0 w' := by
  subst hr
  obtain ⟨s', hD, ha, hx, hb, hk⟩ := h
  exact ⟨s', hD, ha, hx, fun g hg => (hb g hg).elim (hB g) (fun h1 => Nat.le_trans hbel.size h1), hbel.trans (hk.below (B := w0.heap.size) hbel.size hB)⟩
theorem rd_new (w : World) (T : TypeId) (fz : Nat × Nat) (bs : List UInt8) {cs : Array Value} (hc : cs = (bs.map vB).toArray) : RdS encB 1 (w.alloc (.cells cs T fz)) (some ⟨w.heap.size, 0, none⟩) w.heap.size 0 bs := by
  subst hc
  refine ⟨fun _ => rfl, fun _ => by simp, fun i x hx j y hy => ?_⟩
  have hj : j = 0 := by
    have := (List.getElem?_eq_some_iff.1 hy).1
    simp [encB] at this
    exact this
  subst hj
  simp [encB] at hy
  subst hy
  rw [World.cell?_alloc_mark]
  simp [hx]
theorem rd_newI (w : World) (T : TypeId) (bs : List Int) {cs : Array Value} (hc : cs = (bs.map (Value.int .i64)).toArray) : RdS encI 1 (w.alloc (.cells cs T)) (some ⟨w.heap.size, 0, none⟩) w.heap.size 0 bs := by
  subst hc
  refine ⟨fun _ => rfl, fun _ => by simp, fun i x hx j y hy => ?_⟩
  have hj : j = 0 := by
    have := (List.getElem?_eq_some_iff.1 hy).1
    simp [encI] at this
    exact this
  subst hj
  simp [encI] at hy
  subst hy
  simp [hx]
theorem goodOf {d : AD} {s : DkS} (ha : s.abs = d) (h : d.Good) : s.abs.Good := by rw [ha]; exact h
theorem good_append {d : AD} {n : SKey} {b : List UInt8} (h : d.Good) {e : AD} {y : Int} (he : deedA (appendA n b) d = (e, y)) : e.Good := by have := h.deed (f := appendA n b) (fun x hx => hx.append n b); rw [he] at this; exact this
theorem good_sync {d : AD} {n : SKey} (h : d.Good) {e : AD} {y : Int} (he : deedA (syncA n) d = (e, y)) : e.Good := by have := h.deed (f := syncA n) (fun x hx => hx.sync n); rw [he] at this; exact this
theorem good_cut {d : AD} {n : SKey} {k : Int} (h : d.Good) {e : AD} {y : Int} (he : deedA (cutA n k) d = (e, y)) : e.Good := by have := h.deed (f := cutA n k) (fun x hx => hx.cut n k); rw [he] at this; exact this
theorem good_move {d : AD} {n m : SKey} (h : d.Good) {e : AD} {y : Int} (he : deedA (moveA n m) d = (e, y)) : e.Good := by have := h.deed (f := moveA n m) (fun x hx => hx.move n m); rw [he] at this; exact this

theorem bootF_good {r f : Int} {dn : Bool} {l : FL} {ks : List Int} (nm : List UInt8) (h : AD.Good ⟨r, f, dn, l⟩) : AD.Good ⟨r, f, dn, (bootF (l, ks) nm).1⟩ := by
  unfold bootF
  cases hx : atN l nm with
  | none => exact h
  | some x =>
    have hm : aget l x.1 = some x.2 := by
      have h1 := List.mem_of_find?_eq_some hx
      exact aget_some h.keys h1
    have hl := h.len_get hm
    have hkt : ∀ q, keptT q (x.2.1.length - x.2.2) ≤ x.2.1.length - x.2.2 := fun q => by unfold keptT; omega
    simp only
    split
    · split
      · exact h.set hm (Nat.le_refl _) (Nat.le_refl _)
      · exact h.set hm (by rw [List.length_take]; have := hkt ‹Int›; simp only; omega) (by simp only [List.length_take]; omega)
    · exact h.set hm (Nat.le_refl _) (Nat.le_refl _)
theorem AD.Good.boot {d : AD} (h : d.Good) (ks : List Int) : (bootA ks d).Good := by
  have h1 : ∀ (ns : List (List UInt8)) (l : FL) (ks : List Int), AD.Good ⟨d.room, d.fuse, d.down, l⟩ → AD.Good ⟨d.room, d.fuse, d.down, (ns.foldl bootF (l, ks)).1⟩ := by
    intro ns
    induction ns with
    | nil => intro l ks h; exact h
    | cons a r ih =>
      intro l ks h
      rw [List.foldl_cons]
      have := bootF_good (ks := ks) a h
      exact ih _ _ this
  have h2 := h1 (namesOf d.l) d.l ks h
  exact ⟨h2.keys, h2.sure, h2.len, h2.tot, h2.room, by simp [bootA]⟩
theorem same_true (w : World) (a : Option Addr) (g off cap : Nat) (l : List UInt8) (a' : Option Addr) (g' off' cap' : Nat) (m : List UInt8) (h : RdS encB 1 w a g off l) (h' : RdS encB 1 w a' g' off' m) (hl : l.length ≤ 70368744177664) (hm : m.length ≤ 70368744177664) (e : l = m) :
    Calls Try.prog 18 #[.slice a l.length cap, .slice a' m.length cap'] w fun e w' => e = .returned (.bool true) ∧ Ext w w' := by
  have := RefSame_any w a g off cap l a' g' off' cap' m h h' hl hm
  rw [decide_eq_true e] at this
  exact this
set_option maxRecDepth 100000 in
set_option maxHeartbeats 3200000 in
theorem DiskAwake (w : World) : Calls Try.prog 10 #[] w fun e w' => e = .returned (.bool true) ∧ Below w.heap.size w w' := by
  have kc := fun (w : World) (C : Array Value) (n c : Nat) => Lib.run_convert_bytes_const (P := Try.prog) w 22 5 C n c Try.underlying22 Try.underlying5
  go_enter Try.func10, Try.ntmps10
  go_wp2_with fail
  refine (DiskNew_any _ 9).mono ?_
  rintro e w1 ⟨p, s1, rfl, hD1, ha1, hB1, hE1⟩
  have hb1 : Below w.heap.size w w1 := hE1.below
  replace ha1 : s1.abs = ⟨9, -1, false, []⟩ := ha1
  have hG1 : s1.abs.Good := goodOf ha1 (goodNew 9 (by omega) (by omega))
  clear hE1
  have hbx1 : Below w.heap.size w (w1.alloc (.cells #[.int .u8 97, .int .u8 98] 5 (2, 3))) := hb1.trans (((Ext.refl w1).alloc _).below.mono hb1.size)
  have hev2 : deedA (appendA nA [97, 98]) ⟨9, -1, false, []⟩ = (⟨9, -1, false, [(nA, ([97, 98], 0))]⟩, 0) := append0 (n := nA) (A := [97, 98]) (r := 9) (f := -1) okA (by omega) (by decide)
  have hC2 := DiskAppend_any (w1.alloc (.cells #[.int .u8 97, .int .u8 98] 5 (2, 3))) p s1 nA _ _ _ 2 [97, 98] (hD1.ext ((Ext.refl w1).alloc _)) hG1 (rd_new w1 5 (2, 3) [97, 98] (cs := #[.int .u8 97, .int .u8 98]) rfl) (by simp) (fun _ hx => by have := hD1.lt _ hx; omega)
  rw [ha1, hev2] at hC2
  have HC2 := hid hC2
  have HB1 := hid hB1
  have HX1 := hid hbx1
  have HG2 := hid (good_append (ha1 ▸ hG1) hev2)
  clear hC2 hD1 hG1 hB1 hb1 ha1 hev2 hbx1
  go_wp2_with fail
  refine HC2.out.mono ?_
  rintro e w2 ⟨x2, rfl, hx2⟩
  obtain ⟨s2, hD2, ha2, rfl, hB2, hb2⟩ := hx2.step HX1.out HB1.out rfl
  have hG2 : s2.abs.Good := goodOf ha2 HG2.out
  clear hx2 HC2 HX1 HB1 HG2
  have hev3 : deedA (syncA nA) ⟨9, -1, false, [(nA, ([97, 98], 0))]⟩ = (⟨9, -1, false, [(nA, ([97, 98], 2))]⟩, 0) := sync1 (n := nA) (A := [97, 98]) (k := 0) (r := 9) (f := -1) (by omega)
  have hC3 := DiskSync_any w2 p s2 nA hD2 hG2
  rw [ha2, hev3] at hC3
  have HC3 := hid hC3
  have HB2 := hid hB2
  have HX2 := hid hb2
  have HG3 := hid (good_sync (ha2 ▸ hG2) hev3)
  clear hC3 hD2 hG2 hB2 hb2 ha2 hev3
  go_wp2_with fail
  refine HC3.out.mono ?_
  rintro e w3 ⟨x3, rfl, hx3⟩
  obtain ⟨s3, hD3, ha3, rfl, hB3, hb3⟩ := hx3.step HX2.out HB2.out rfl
  have hG3 : s3.abs.Good := goodOf ha3 HG3.out
  clear hx3 HC3 HX2 HB2 HG3
  have hbx3 : Below w.heap.size w (w3.alloc (.cells #[.int .u8 99, .int .u8 100] 5 (2, 3))) := hb3.trans (((Ext.refl w3).alloc _).below.mono hb3.size)
  have hev4 : deedA (appendA nA [99, 100]) ⟨9, -1, false, [(nA, ([97, 98], 2))]⟩ = (⟨9, -1, false, [(nA, ([97, 98] ++ [99, 100], 2))]⟩, 0) := append1 (n := nA) (A := [97, 98]) (B := [99, 100]) (k := 2) (r := 9) (f := -1) okA (by omega) (by decide)
  have hC4 := DiskAppend_any (w3.alloc (.cells #[.int .u8 99, .int .u8 100] 5 (2, 3))) p s3 nA _ _ _ 2 [99, 100] (hD3.ext ((Ext.refl w3).alloc _)) hG3 (rd_new w3 5 (2, 3) [99, 100] (cs := #[.int .u8 99, .int .u8 100]) rfl) (by simp) (fun _ hx => by have := hD3.lt _ hx; omega)
  rw [ha3, hev4] at hC4
  have HC4 := hid hC4
  have HB3 := hid hB3
  have HX3 := hid hbx3
  have HG4 := hid (good_append (ha3 ▸ hG3) hev4)
  clear hC4 hD3 hG3 hB3 hb3 ha3 hev4 hbx3
  go_wp2_with fail
  refine HC4.out.mono ?_
  rintro e w4 ⟨x4, rfl, hx4⟩
  obtain ⟨s4, hD4, ha4, rfl, hB4, hb4⟩ := hx4.step HX3.out HB3.out rfl
  have hG4 : s4.abs.Good := goodOf ha4 HG4.out
  clear hx4 HC4 HX3 HB3 HG4
  have hbx4 : Below w.heap.size w (w4.alloc (.cells #[.int .i64 1] 3)) := hb4.trans (((Ext.refl w4).alloc _).below.mono hb4.size)
  have hpl5 := (show bootA [1] (⟨9, -1, false, [(nA, ([97, 98] ++ [99, 100], 2))]⟩ : AD) = ⟨9, -1, false, [(nA, ([97, 98, 99], 3))]⟩ from by unfold bootA; simp only [names1, List.foldl_cons, List.foldl_nil]; rw [bootF_some (get1 _) (by decide)]; rfl)
  have hC5 := DiskBoot_any (w4.alloc (.cells #[.int .i64 1] 3)) p s4 _ _ _ 1 [1] (hD4.ext ((Ext.refl w4).alloc _)) hG4 (rd_newI w4 3 [1] (cs := #[.int .i64 1]) rfl) (by simp) (by unfold maxLen; omega) (by simp) (fun _ hx => by have := hD4.lt _ hx; omega)
  have HG5 := hid (hG4.boot [1])
  rw [ha4] at hC5 HG5
  rw [hpl5] at hC5 HG5
  have HC5 := hid hC5
  have HB4 := hid hB4
  have HX4 := hid hbx4
  clear hC5 hD4 hG4 hB4 hb4 hbx4 ha4 hpl5
  go_wp2_with fail
  refine HC5.out.mono ?_
  rintro e w5 ⟨rfl, s5, hD5, ha5, hB5', hk5⟩
  have hB5 : ∀ g, s5.Blk p g → w.heap.size ≤ g := fun g hg => HB4.out g (hB5' g hg)
  have hb5 : Below w.heap.size w w5 := HX4.out.trans (hk5.below HX4.out.size HB4.out)
  have hG5 : s5.abs.Good := goodOf ha5 HG5.out
  clear hB5' hk5 HC5 HB4 HX4 HG5
  have hpl6 := (show readA nA ⟨9, -1, false, [(nA, ([97, 98, 99], 3))]⟩ = ([97, 98, 99], 0) from read1)
  have hC6 := DiskRead_any w5 p s5 nA hD5 hG5
  rw [ha5, hpl6] at hC6
  have HC6 := hid hC6
  have HB5 := hid hB5
  have HX5 := hid hb5
  have HD5 := hid hD5
  have HA5 := hid ha5
  have HG5 := hid hG5
  clear hC6 hD5 hG5 hB5 hb5 ha5 hpl6
  go_wp2_with fail
  refine HC6.out.mono ?_
  rintro e w6 ⟨vq, rfl, hownq, hfrq, hbr6⟩
  obtain ⟨aq, gq, oq, cq, hvq, hcq, hrq, hnq⟩ := hownq.rd
  subst hvq
  have hD6 := HD5.out.below hbr6
  have hb6 := below_trans' HX5.out hbr6
  have hB6 := HB5.out
  have ha6 := HA5.out
  have hG6 := HG5.out
  clear HC6 HB5 HX5 HD5 HA5 HG5 hownq
  have hagq := hrq.some (by simp)
  subst hagq
  have hcb : (convert 22 9 (.slice (some ⟨gq, oq, none⟩) 3 cq)).run Try.prog w6 = .ok (.string ⟨#[97, 98, 99]⟩) w6 := run_convert_bytes_back w6 22 9 5 ⟨gq, oq, none⟩ cq [97, 98, 99] Try.underlying22 Try.underlying5 Try.underlying9 (fun j hj => by
    rw [add_lit]
    exact RdB hrq (List.getElem?_eq_getElem hj))
  have HBB := hid hb6
  clear hD6 hb6 hB6 ha6 hG6 hrq hcq hnq hfrq hbr6
  go_wp2
  go_ret
  exact ⟨rfl, HBB.out⟩
set_option maxRecDepth 100000 in
set_option maxHeartbeats 3200000 in
theorem DiskMoves_great (w : World) (aA : Option Addr) (gA oA cA : Nat) (A : List UInt8) (aB : Option Addr) (gB oB cB : Nat) (B : List UInt8) (q : Int) (hA : RdS encB 1 w aA gA oA A) (hB : RdS encB 1 w aB gB oB B) (hAc : A.length ≤ cA) (hAm : cA ≤ maxLen) (hBc : B.length ≤ cB) (hBm : cB ≤ maxLen) (hg : 100 < A.length ∨ 100 < B.length) :
    Calls Try.prog 5 #[.slice aA A.length cA, .slice aB B.length cB, .int .i64 q] w fun e w' => e = .returned (.bool true) ∧ Below w.heap.size w w' := by
  unfold maxLen at hAm hBm
  have HA := hid (DiskAwake w)
  clear hA hB
  by_cases h1 : 100 < A.length
  · clear hg
    go_enter Try.func5, Try.ntmps5
    go_wp2_with fail
    refine HA.out.mono ?_
    rintro e w1 ⟨rfl, hb⟩
    have HB := hid hb
    clear hb
    go_wp2
    go_ret
    exact ⟨rfl, HB.out⟩
  · have h2 : 100 < B.length := hg.resolve_left h1
    clear hg
    go_enter Try.func5, Try.ntmps5
    go_wp2_with fail
    refine HA.out.mono ?_
    rintro e w1 ⟨rfl, hb⟩
    have HB := hid hb
    clear hb
    go_wp2
    go_ret
    exact ⟨rfl, HB.out⟩
set_option maxRecDepth 100000 in
set_option maxHeartbeats 3200000 in
theorem DiskMoves_small (w : World) (aA : Option Addr) (gA oA cA : Nat) (A : List UInt8) (aB : Option Addr) (gB oB cB : Nat) (B : List UInt8) (q : Int) (hA : RdS encB 1 w aA gA oA A) (hB : RdS encB 1 w aB gB oB B) (hAc : A.length ≤ cA) (hAm : cA ≤ maxLen) (hBc : B.length ≤ cB) (hBm : cB ≤ maxLen) (hAs : A.length ≤ 100) (hBs : B.length ≤ 100) :
    Calls Try.prog 5 #[.slice aA A.length cA, .slice aB B.length cB, .int .i64 q] w fun e w' => e = .returned (.bool true) ∧ Below w.heap.size w w' := by
  unfold maxLen at hAm hBm
  have HRA := hid hA
  have HRB := hid hB
  have hgA : A ≠ [] → gA < w.heap.size := hA.lt
  have hgB : B ≠ [] → gB < w.heap.size := hB.lt
  clear hA hB
  go_enter Try.func5, Try.ntmps5
  go_wp2_with fail
  refine (DiskNew_any _ 1000).mono ?_
  rintro e w1 ⟨p, s1, rfl, hD1, ha1, hB1, hE1⟩
  have hb1 : Below w.heap.size w w1 := hE1.below
  replace ha1 : s1.abs = ⟨1000, -1, false, []⟩ := ha1
  have hG1 : s1.abs.Good := goodOf ha1 (goodNew 1000 (by omega) (by omega))
  clear hE1
  have hev2 : deedA (appendA nOld A) ⟨1000, -1, false, []⟩ = (⟨1000, -1, false, [(nOld, (A, 0))]⟩, 0) := append0 okOld (by omega) (by omega)
  have hC2 := DiskAppend_any w1 p s1 nOld aA gA oA cA A hD1 hG1 (HRA.out.below hb1) (by omega) (fun hne hx => by have h1 := hB1 _ hx; have h2 := hgA hne; omega)
  rw [ha1, hev2] at hC2
  have HC2 := hid hC2
  have HB1 := hid hB1
  have HX1 := hid hb1
  have HG2 := hid (good_append (ha1 ▸ hG1) hev2)
  clear hC2 hD1 hG1 hB1 hb1 ha1 hev2
  go_wp2_with fail
  refine HC2.out.mono ?_
  rintro e w2 ⟨x2, rfl, hx2⟩
  obtain ⟨s2, hD2, ha2, rfl, hB2, hb2⟩ := hx2.step HX1.out HB1.out rfl
  have hG2 : s2.abs.Good := goodOf ha2 HG2.out
  clear hx2 HC2 HX1 HB1 HG2
  have hev3 : deedA (appendA nNew B) ⟨1000, -1, false, [(nOld, (A, 0))]⟩ = (⟨1000, -1, false, [(nOld, (A, 0)), (nNew, (B, 0))]⟩, 0) := append1n okNew (fun h => neON h.symm) (by omega) (by omega)
  have hC3 := DiskAppend_any w2 p s2 nNew aB gB oB cB B hD2 hG2 (HRB.out.below hb2) (by omega) (fun hne hx => by have h1 := hB2 _ hx; have h2 := hgB hne; omega)
  rw [ha2, hev3] at hC3
  have HC3 := hid hC3
  have HB2 := hid hB2
  have HX2 := hid hb2
  have HG3 := hid (good_append (ha2 ▸ hG2) hev3)
  clear hC3 hD2 hG2 hB2 hb2 ha2 hev3
  go_wp2_with fail
  refine HC3.out.mono ?_
  rintro e w3 ⟨x3, rfl, hx3⟩
  obtain ⟨s3, hD3, ha3, rfl, hB3, hb3⟩ := hx3.step HX2.out HB2.out rfl
  have hG3 : s3.abs.Good := goodOf ha3 HG3.out
  clear hx3 HC3 HX2 HB2 HG3
  have hev4 : deedA (moveA nNew nOld) ⟨1000, -1, false, [(nOld, (A, 0)), (nNew, (B, 0))]⟩ = (⟨1000, -1, false, [(nOld, (B, B.length))]⟩, 0) := move2 okOld (fun h => neON h.symm) (by omega) _
  have hC4 := DiskMove_any w3 p s3 nNew nOld hD3 hG3
  rw [ha3, hev4] at hC4
  have HC4 := hid hC4
  have HB3 := hid hB3
  have HX3 := hid hb3
  have HG4 := hid (good_move (ha3 ▸ hG3) hev4)
  clear hC4 hD3 hG3 hB3 hb3 ha3 hev4
  go_wp2_with fail
  refine HC4.out.mono ?_
  rintro e w4 ⟨x4, rfl, hx4⟩
  obtain ⟨s4, hD4, ha4, rfl, hB4, hb4⟩ := hx4.step HX3.out HB3.out rfl
  have hG4 : s4.abs.Good := goodOf ha4 HG4.out
  clear hx4 HC4 HX3 HB3 HG4
  have hbx4 : Below w.heap.size w (w4.alloc (.cells #[.int .i64 q] 3)) := hb4.trans (((Ext.refl w4).alloc _).below.mono hb4.size)
  have hpl5 := (show bootA [q] (⟨1000, -1, false, [(nOld, (B, B.length))]⟩ : AD) = ⟨1000, -1, false, [(nOld, (B, B.length))]⟩ from boot1s _ _)
  have hC5 := DiskBoot_any (w4.alloc (.cells #[.int .i64 q] 3)) p s4 _ _ _ 1 [q] (hD4.ext ((Ext.refl w4).alloc _)) hG4 (rd_newI w4 3 [q] (cs := #[.int .i64 q]) rfl) (by simp) (by unfold maxLen; omega) (by simp) (fun _ hx => by have := hD4.lt _ hx; omega)
  have HG5 := hid (hG4.boot [q])
  rw [ha4] at hC5 HG5
  rw [hpl5] at hC5 HG5
  have HC5 := hid hC5
  have HB4 := hid hB4
  have HX4 := hid hbx4
  clear hC5 hD4 hG4 hB4 hb4 hbx4 ha4 hpl5
  go_wp2_with fail
  refine HC5.out.mono ?_
  rintro e w5 ⟨rfl, s5, hD5, ha5, hB5', hk5⟩
  have hB5 : ∀ g, s5.Blk p g → w.heap.size ≤ g := fun g hg => HB4.out g (hB5' g hg)
  have hb5 : Below w.heap.size w w5 := HX4.out.trans (hk5.below HX4.out.size HB4.out)
  have hG5 : s5.abs.Good := goodOf ha5 HG5.out
  clear hB5' hk5 HC5 HB4 HX4 HG5
  have hpl6 := (show readA nOld ⟨1000, -1, false, [(nOld, (B, B.length))]⟩ = (B, 0) from read1)
  have hC6 := DiskRead_any w5 p s5 nOld hD5 hG5
  rw [ha5, hpl6] at hC6
  have HC6 := hid hC6
  have HB5 := hid hB5
  have HX5 := hid hb5
  have HD5 := hid hD5
  have HA5 := hid ha5
  have HG5 := hid hG5
  clear hC6 hD5 hG5 hB5 hb5 ha5 hpl6
  go_wp2_with fail
  refine HC6.out.mono ?_
  rintro e w6 ⟨vP, rfl, hownP, hfrP, hbr6⟩
  obtain ⟨aP, gP, oP, cP, hvP, hcP, hrP, hnP⟩ := hownP.rd
  subst hvP
  have hD6 := HD5.out.below hbr6
  have hb6 := below_trans' HX5.out hbr6
  have hB6 := HB5.out
  have ha6 := HA5.out
  have hG6 := HG5.out
  clear HC6 HB5 HX5 HD5 HA5 HG5 hownP
  have hpl7 := (show readA nNew ⟨1000, -1, false, [(nOld, (B, B.length))]⟩ = ([], 8) from read1n (fun h => neON h.symm))
  have hC7 := DiskRead_any w6 p s5 nNew hD6 hG6
  rw [ha6, hpl7] at hC7
  have HC7 := hid hC7
  have HB6 := hid hB6
  have HX6 := hid hb6
  have HD6 := hid hD6
  have HA6 := hid ha6
  have HG6 := hid hG6
  clear hC7 hD6 hG6 hB6 hb6 ha6 hpl7
  go_wp2_with fail
  refine HC7.out.mono ?_
  rintro e w7 ⟨vQ, rfl, hownQ, hfrQ, hbr7⟩
  obtain ⟨aQ, gQ, oQ, cQ, hvQ, hcQ, hrQ, hnQ⟩ := hownQ.rd
  subst hvQ
  have hD7 := HD6.out.below hbr7
  have hb7 := below_trans' HX6.out hbr7
  have hB7 := HB6.out
  have ha7 := HA6.out
  have hG7 := HG6.out
  clear HC7 HB6 HX6 HD6 HA6 HG6 hownQ
  have hrP2 := hrP.below hbr7
  have HS := hid (same_true w7 aP gP oP cP B aB gB oB cB B hrP2 (HRB.out.below hb7) (by omega) (by omega) rfl)
  have hu := fun W (hW : Dk W p s5) => DiskUsed_any W p s5 hW (by rw [ha7]; simp [totL]; omega)
  have hdn : s5.down = false := by have := congrArg AD.down ha7; exact this
  rw [ha7, hdn] at hu
  simp only [Bool.false_eq_true, if_false, tot1] at hu
  have HU := hid hu
  have HD7 := hid hD7
  have HB7 := hid hb7
  clear hrP hrP2 hcP hnP hfrP hrQ hcQ hnQ hfrQ hbr6 hbr7 hD7 hG7 ha7 hB7 hb7 hu hdn
  go_wp2_with fail
  refine HS.out.mono ?_
  rintro e w8 ⟨rfl, hE8⟩
  have HE8 := hid hE8
  clear hE8 HS
  go_wp2_with fail
  refine (HU.out _ (HD7.out.ext HE8.out)).mono ?_
  rintro e w9 ⟨rfl, hE9⟩
  have HB9 := hid (below_trans' (below_trans' HB7.out HE8.out.below) hE9.below)
  clear hE9 HU
  go_wp2_with fail
  refine (DiskAwake _).mono ?_
  rintro e w10 ⟨rfl, hb10⟩
  have HB10 := hid (below_trans' HB9.out hb10)
  clear hb10
  go_wp2
  go_ret
  exact ⟨rfl, HB10.out⟩
theorem DiskMoves_any (w : World) (aA : Option Addr) (gA oA cA : Nat) (A : List UInt8) (aB : Option Addr) (gB oB cB : Nat) (B : List UInt8) (q : Int) (hA : RdS encB 1 w aA gA oA A) (hB : RdS encB 1 w aB gB oB B) (hAc : A.length ≤ cA) (hAm : cA ≤ maxLen) (hBc : B.length ≤ cB) (hBm : cB ≤ maxLen) : Calls Try.prog 5 #[.slice aA A.length cA, .slice aB B.length cB, .int .i64 q] w fun e w' => e = .returned (.bool true) ∧ Below w.heap.size w w' := by
  by_cases h1 : 100 < A.length
  · exact DiskMoves_great w aA gA oA cA A aB gB oB cB B q hA hB hAc hAm hBc hBm (Or.inl h1)
  · by_cases h2 : 100 < B.length
    · exact DiskMoves_great w aA gA oA cA A aB gB oB cB B q hA hB hAc hAm hBc hBm (Or.inr h2)
    · exact DiskMoves_small w aA gA oA cA A aB gB oB cB B q hA hB hAc hAm hBc hBm (by omega) (by omega)

theorem rd_take {w : World} {a : Option Addr} {g off cap : Nat} {l : List UInt8} (h : RdS encB 1 w a g off l) (hc : l.length ≤ cap) {k : Nat} (hk : k ≤ l.length) : (∀ W, (Instr.slice 22 (.slice a l.length cap) none (some (.int .i64 k)) none).run Try.prog W = .ok (.slice a k cap) W) ∧ RdS encB 1 w a g off (l.take k) := by
  refine ⟨fun W => ?_, ?_, ?_, ?_⟩
  · have h1 : k ≤ cap := by omega
    by_cases h0 : cap = 0
    · subst h0
      cases a with
      | none => simp [Instr.slice, run_underlying Try.underlying22, sizeB, Instr.sliceBounds, Instr.sliceBound, asIntOf, h1]
      | some a => simp [Instr.slice, run_underlying Try.underlying22, sizeB, Instr.sliceBounds, Instr.sliceBound, asIntOf, h1, Addr.add]
    · cases a with
      | none => simp [Instr.slice, run_underlying Try.underlying22, sizeB, Instr.sliceBounds, Instr.sliceBound, asIntOf, h1]
      | some a => simp [Instr.slice, run_underlying Try.underlying22, sizeB, Instr.sliceBounds, Instr.sliceBound, asIntOf, h1, h0, Addr.add]
  · intro hne
    refine h.some (fun e => hne (by rw [e]; simp))
  · intro hne
    refine h.lt (fun e => hne (by rw [e]; simp))
  · intro i x hx j y hy
    rw [List.getElem?_take] at hx
    split at hx
    · exact h.cells i x hx j y hy
    · cases hx
set_option maxRecDepth 100000 in
set_option maxHeartbeats 3200000 in
theorem DiskCuts_great (w : World) (aA : Option Addr) (gA oA cA : Nat) (A : List UInt8) (aB : Option Addr) (gB oB cB : Nat) (B : List UInt8) (n : Int) (q : Int) (hA : RdS encB 1 w aA gA oA A) (hB : RdS encB 1 w aB gB oB B) (hAc : A.length ≤ cA) (hAm : cA ≤ maxLen) (hBc : B.length ≤ cB) (hBm : cB ≤ maxLen) (hg : 100 < A.length ∨ 100 < B.length) :
    Calls Try.prog 4 #[.slice aA A.length cA, .slice aB B.length cB, .int .i64 n, .int .i64 q] w fun e w' => e = .returned (.bool true) ∧ Below w.heap.size w w' := by
  unfold maxLen at hAm hBm
  have HA := hid (DiskAwake w)
  clear hA hB
  by_cases h1 : 100 < A.length
  · clear hg
    go_enter Try.func4, Try.ntmps4
    go_wp2_with fail
    refine HA.out.mono ?_
    rintro e w1 ⟨rfl, hb⟩
    have HB := hid hb
    clear hb
    go_wp2
    go_ret
    exact ⟨rfl, HB.out⟩
  · have h2 : 100 < B.length := hg.resolve_left h1
    clear hg
    go_enter Try.func4, Try.ntmps4
    go_wp2_with fail
    refine HA.out.mono ?_
    rintro e w1 ⟨rfl, hb⟩
    have HB := hid hb
    clear hb
    go_wp2
    go_ret
    exact ⟨rfl, HB.out⟩
set_option maxRecDepth 100000 in
set_option maxHeartbeats 3200000 in
theorem DiskCuts_high (w : World) (aA : Option Addr) (gA oA cA : Nat) (A : List UInt8) (aB : Option Addr) (gB oB cB : Nat) (B : List UInt8) (n : Int) (q : Int) (hA : RdS encB 1 w aA gA oA A) (hB : RdS encB 1 w aB gB oB B) (hAc : A.length ≤ cA) (hAm : cA ≤ maxLen) (hBc : B.length ≤ cB) (hBm : cB ≤ maxLen) (hAs : A.length ≤ 100) (hBs : B.length ≤ 100) (hn : n < 0 ∨ ((A ++ B).length : Int) < n) :
    Calls Try.prog 4 #[.slice aA A.length cA, .slice aB B.length cB, .int .i64 n, .int .i64 q] w fun e w' => e = .returned (.bool true) ∧ Below w.heap.size w w' := by
  unfold maxLen at hAm hBm
  have HRA := hid hA
  have HRB := hid hB
  have hgA : A ≠ [] → gA < w.heap.size := hA.lt
  have hgB : B ≠ [] → gB < w.heap.size := hB.lt
  clear hA hB
  go_enter Try.func4, Try.ntmps4
  go_wp2_with fail
  refine (DiskNew_any _ 1000).mono ?_
  rintro e w1 ⟨p, s1, rfl, hD1, ha1, hB1, hE1⟩
  have hb1 : Below w.heap.size w w1 := hE1.below
  replace ha1 : s1.abs = ⟨1000, -1, false, []⟩ := ha1
  have hG1 : s1.abs.Good := goodOf ha1 (goodNew 1000 (by omega) (by omega))
  clear hE1
  have hev2 : deedA (appendA nX A) ⟨1000, -1, false, []⟩ = (⟨1000, -1, false, [(nX, (A, 0))]⟩, 0) := append0 okX (by omega) (by omega)
  have hC2 := DiskAppend_any w1 p s1 nX aA gA oA cA A hD1 hG1 (HRA.out.below hb1) (by omega) (fun hne hx => by have h1 := hB1 _ hx; have h2 := hgA hne; omega)
  rw [ha1, hev2] at hC2
  have HC2 := hid hC2
  have HB1 := hid hB1
  have HX1 := hid hb1
  have HG2 := hid (good_append (ha1 ▸ hG1) hev2)
  clear hC2 hD1 hG1 hB1 hb1 ha1 hev2
  go_wp2_with fail
  refine HC2.out.mono ?_
  rintro e w2 ⟨x2, rfl, hx2⟩
  obtain ⟨s2, hD2, ha2, rfl, hB2, hb2⟩ := hx2.step HX1.out HB1.out rfl
  have hG2 : s2.abs.Good := goodOf ha2 HG2.out
  clear hx2 HC2 HX1 HB1 HG2
  have hev3 : deedA (syncA nX) ⟨1000, -1, false, [(nX, (A, 0))]⟩ = (⟨1000, -1, false, [(nX, (A, A.length))]⟩, 0) := sync1 (by omega)
  have hC3 := DiskSync_any w2 p s2 nX hD2 hG2
  rw [ha2, hev3] at hC3
  have HC3 := hid hC3
  have HB2 := hid hB2
  have HX2 := hid hb2
  have HG3 := hid (good_sync (ha2 ▸ hG2) hev3)
  clear hC3 hD2 hG2 hB2 hb2 ha2 hev3
  go_wp2_with fail
  refine HC3.out.mono ?_
  rintro e w3 ⟨x3, rfl, hx3⟩
  obtain ⟨s3, hD3, ha3, rfl, hB3, hb3⟩ := hx3.step HX2.out HB2.out rfl
  have hG3 : s3.abs.Good := goodOf ha3 HG3.out
  clear hx3 HC3 HX2 HB2 HG3
  have hev4 : deedA (appendA nX B) ⟨1000, -1, false, [(nX, (A, A.length))]⟩ = (⟨1000, -1, false, [(nX, (A ++ B, A.length))]⟩, 0) := append1 okX (by omega) (by omega)
  have hC4 := DiskAppend_any w3 p s3 nX aB gB oB cB B hD3 hG3 (HRB.out.below hb3) (by omega) (fun hne hx => by have h1 := hB3 _ hx; have h2 := hgB hne; omega)
  rw [ha3, hev4] at hC4
  have HC4 := hid hC4
  have HB3 := hid hB3
  have HX3 := hid hb3
  have HG4 := hid (good_append (ha3 ▸ hG3) hev4)
  clear hC4 hD3 hG3 hB3 hb3 ha3 hev4
  go_wp2_with fail
  refine HC4.out.mono ?_
  rintro e w4 ⟨x4, rfl, hx4⟩
  obtain ⟨s4, hD4, ha4, rfl, hB4, hb4⟩ := hx4.step HX3.out HB3.out rfl
  have hG4 : s4.abs.Good := goodOf ha4 HG4.out
  clear hx4 HC4 HX3 HB3 HG4
  have hsrcA := Src.ofRd (cap := cA) ((HRA.out.below hb4).below (((Ext.refl w4).alloc (.cells #[] 5)).below))
  have hown0 : OwnB (w4.alloc (.cells #[] 5)) (.slice (some ⟨w4.heap.size, 0, none⟩) 0 0) [] :=
    Or.inr ⟨w4.heap.size, 0, #[], rfl, heap_alloc_new w4 _, Nat.le_refl _, by unfold maxLen; omega, Nat.le_refl _, rfl⟩
  have HSA := hid hsrcA
  have HO0 := hid hown0
  have HD4 := hid hD4
  have HB4 := hid hB4
  have HX4 := hid hb4
  have HA4 := hid ha4
  have HG4 := hid hG4
  clear hsrcA hown0 hD4 hB4 hb4 ha4 hG4
  go_wp2_with (at_builtin; go_must (refine wpList_append_B rfl _ _ rfl _ [] A rfl HO0.out _ rfl HSA.out (by simp; omega) ?_))
  intro v5 w5 hown5 hg5 hat5
  have hb45 : RowKit.Below w4.heap.size w4 w5 := ((Ext.refl w4).alloc _).below.grown hg5 (by simp) (fun g hg => by cases hg; exact Nat.le_refl _)
  have hfr5 : ∀ g, v5.ownBlock = some g → w4.heap.size ≤ g := fun g hg => by
    rcases hat5 with h | h
    · rw [h] at hg; cases hg; exact Nat.le_refl _
    · rw [h] at hg; simp at hg; omega
  have HO5 := hid hown5
  have HB45 := hid hb45
  have HF5 := hid hfr5
  have HSB := hid (Src.ofRd (cap := cB) ((HRB.out.below HX4.out).below hb45))
  clear hown5 hg5 hat5 hb45 hfr5 HO0 HSA
  go_wp2_with (at_builtin; go_must (refine wpList_append_B rfl _ _ rfl _ A B rfl HO5.out _ rfl HSB.out (by omega) ?_))
  intro v6 w6 hown6 hg6 hat6
  obtain ⟨C, hC⟩ : ∃ C, C = A ++ B := ⟨_, rfl⟩
  rw [← hC] at hown6
  have hCl : C.length ≤ 200 := by rw [hC]; simp; omega
  obtain ⟨aC, gC, oC, cC, hvC, hcC, hrC, hnC⟩ := hown6.rd
  have hb46 : RowKit.Below w4.heap.size w4 w6 := HB45.out.grown hg6 HB45.out.size (fun g hg => HF5.out g hg)
  have hfr6 : C ≠ [] → ¬ s4.Blk p gC := fun hne hx => by
    have h1 : v6.ownBlock = some gC := by rw [hvC, hrC.some hne]; rfl
    have h2 := HD4.out.lt gC hx
    rcases hat6 with h | h
    · rw [h] at h1
      have := HF5.out gC h1
      omega
    · rw [h] at h1
      simp at h1
      have := HB45.out.size
      omega
  subst hvC
  have hD6 := HD4.out.below hb46
  have hb6 := below_trans' HX4.out hb46
  have HB6 := HB4
  have HFR := hid hfr6
  have HRC := hid hrC
  have HCE := hid hC
  clear hown6 hg6 hat6 hb46 hfr6 hrC hC HO5 HSB HB45 HF5 HD4 HX4
  have hevc : deedA (cutA nX n) ⟨1000, -1, false, [(nX, (A ++ B, A.length))]⟩ = (⟨1000, -1, false, [(nX, (A ++ B, A.length))]⟩, 6) := by rw [cut1 (by omega)]; exact if_pos hn
  have hC7 := DiskCut_any w6 p s4 nX n hD6 HG4.out
  rw [HA4.out, hevc] at hC7
  have HC7 := hid hC7
  have HG7 := hid (good_cut (HA4.out ▸ HG4.out) hevc)
  have HX6 := hid hb6
  have HD6 := hid hD6
  clear hC7 hevc hD6 hb6
  go_wp2_with fail
  refine HC7.out.mono ?_
  rintro e w7 ⟨x7, rfl, hx7⟩
  obtain ⟨s7, hD7, ha7, rfl, hbk7, hk7⟩ := hx7
  have hB7 : ∀ g, s7.Blk p g → w.heap.size ≤ g := fun g hg => (hbk7 g hg).elim (HB6.out g) (fun h1 => Nat.le_trans HX6.out.size h1)
  have hb7 : Below w.heap.size w w7 := HX6.out.trans (hk7.below (B := w.heap.size) HX6.out.size HB6.out)
  have hG7 : s7.abs.Good := goodOf ha7 HG7.out
  have hrC7 : RdS encB 1 w7 aC gC oC C := HRC.out.keeps hk7 (fun hne => HFR.out hne)
  have HFQ : Hid (C ≠ [] → ¬ s7.Blk p gC) := fun hne hx => (hbk7 gC hx).elim (HFR.out hne) (fun h => by have := HRC.out.lt hne; omega)
  clear hbk7 hk7 HC7 HG7 HX6 HD6 HRC HFR
  have hu := fun W (hW : Dk W p s7) => DiskUsed_any W p s7 hW (by rw [ha7]; simp [totL]; omega)
  have hdn : s7.down = false := by have := congrArg AD.down ha7; exact this
  rw [ha7, hdn] at hu
  simp only [Bool.false_eq_true, if_false, tot1] at hu
  rw [← HCE.out] at hu
  have HU := hid (hu w7 hD7)
  have HB7 := hid hb7
  have hn' : n < 0 ∨ (C.length : Int) < n := by rw [HCE.out]; exact hn
  clear hu hdn hD7 ha7 hB7 hb7 hG7 hrC7 hn
  by_cases hn0 : n < 0
  · clear hn'
    go_wp2_with fail
    refine HU.out.mono ?_
    rintro e w9 ⟨rfl, hE9⟩
    have HB9 := hid (below_trans' HB7.out hE9.below)
    clear hE9 HU
    go_wp2_with fail
    refine (DiskAwake _).mono ?_
    rintro e w10 ⟨rfl, hb10⟩
    have HB10 := hid (below_trans' HB9.out hb10)
    clear hb10
    go_wp2
    go_ret
    exact ⟨rfl, HB10.out⟩
  · have hn1 : (C.length : Int) < n := hn'.resolve_left hn0
    clear hn'
    go_wp2_with fail
    refine HU.out.mono ?_
    rintro e w9 ⟨rfl, hE9⟩
    have HB9 := hid (below_trans' HB7.out hE9.below)
    clear hE9 HU
    go_wp2_with fail
    refine (DiskAwake _).mono ?_
    rintro e w10 ⟨rfl, hb10⟩
    have HB10 := hid (below_trans' HB9.out hb10)
    clear hb10
    go_wp2
    go_ret
    exact ⟨rfl, HB10.out⟩
set_option maxRecDepth 100000 in
set_option maxHeartbeats 3200000 in
theorem DiskCuts_fine (w : World) (aA : Option Addr) (gA oA cA : Nat) (A : List UInt8) (aB : Option Addr) (gB oB cB : Nat) (B : List UInt8) (m : Nat) (q : Int) (hA : RdS encB 1 w aA gA oA A) (hB : RdS encB 1 w aB gB oB B) (hAc : A.length ≤ cA) (hAm : cA ≤ maxLen) (hBc : B.length ≤ cB) (hBm : cB ≤ maxLen) (hAs : A.length ≤ 100) (hBs : B.length ≤ 100) (hm : m ≤ (A ++ B).length) :
    Calls Try.prog 4 #[.slice aA A.length cA, .slice aB B.length cB, .int .i64 (m : Int), .int .i64 q] w fun e w' => e = .returned (.bool true) ∧ Below w.heap.size w w' := by
  unfold maxLen at hAm hBm
  have HRA := hid hA
  have HRB := hid hB
  have hgA : A ≠ [] → gA < w.heap.size := hA.lt
  have hgB : B ≠ [] → gB < w.heap.size := hB.lt
  clear hA hB
  go_enter Try.func4, Try.ntmps4
  go_wp2_with fail
  refine (DiskNew_any _ 1000).mono ?_
  rintro e w1 ⟨p, s1, rfl, hD1, ha1, hB1, hE1⟩
  have hb1 : Below w.heap.size w w1 := hE1.below
  replace ha1 : s1.abs = ⟨1000, -1, false, []⟩ := ha1
  have hG1 : s1.abs.Good := goodOf ha1 (goodNew 1000 (by omega) (by omega))
  clear hE1
  have hev2 : deedA (appendA nX A) ⟨1000, -1, false, []⟩ = (⟨1000, -1, false, [(nX, (A, 0))]⟩, 0) := append0 okX (by omega) (by omega)
  have hC2 := DiskAppend_any w1 p s1 nX aA gA oA cA A hD1 hG1 (HRA.out.below hb1) (by omega) (fun hne hx => by have h1 := hB1 _ hx; have h2 := hgA hne; omega)
  rw [ha1, hev2] at hC2
  have HC2 := hid hC2
  have HB1 := hid hB1
  have HX1 := hid hb1
  have HG2 := hid (good_append (ha1 ▸ hG1) hev2)
  clear hC2 hD1 hG1 hB1 hb1 ha1 hev2
  go_wp2_with fail
  refine HC2.out.mono ?_
  rintro e w2 ⟨x2, rfl, hx2⟩
  obtain ⟨s2, hD2, ha2, rfl, hB2, hb2⟩ := hx2.step HX1.out HB1.out rfl
  have hG2 : s2.abs.Good := goodOf ha2 HG2.out
  clear hx2 HC2 HX1 HB1 HG2
  have hev3 : deedA (syncA nX) ⟨1000, -1, false, [(nX, (A, 0))]⟩ = (⟨1000, -1, false, [(nX, (A, A.length))]⟩, 0) := sync1 (by omega)
  have hC3 := DiskSync_any w2 p s2 nX hD2 hG2
  rw [ha2, hev3] at hC3
  have HC3 := hid hC3
  have HB2 := hid hB2
  have HX2 := hid hb2
  have HG3 := hid (good_sync (ha2 ▸ hG2) hev3)
  clear hC3 hD2 hG2 hB2 hb2 ha2 hev3
  go_wp2_with fail
  refine HC3.out.mono ?_
  rintro e w3 ⟨x3, rfl, hx3⟩
  obtain ⟨s3, hD3, ha3, rfl, hB3, hb3⟩ := hx3.step HX2.out HB2.out rfl
  have hG3 : s3.abs.Good := goodOf ha3 HG3.out
  clear hx3 HC3 HX2 HB2 HG3
  have hev4 : deedA (appendA nX B) ⟨1000, -1, false, [(nX, (A, A.length))]⟩ = (⟨1000, -1, false, [(nX, (A ++ B, A.length))]⟩, 0) := append1 okX (by omega) (by omega)
  have hC4 := DiskAppend_any w3 p s3 nX aB gB oB cB B hD3 hG3 (HRB.out.below hb3) (by omega) (fun hne hx => by have h1 := hB3 _ hx; have h2 := hgB hne; omega)
  rw [ha3, hev4] at hC4
  have HC4 := hid hC4
  have HB3 := hid hB3
  have HX3 := hid hb3
  have HG4 := hid (good_append (ha3 ▸ hG3) hev4)
  clear hC4 hD3 hG3 hB3 hb3 ha3 hev4
  go_wp2_with fail
  refine HC4.out.mono ?_
  rintro e w4 ⟨x4, rfl, hx4⟩
  obtain ⟨s4, hD4, ha4, rfl, hB4, hb4⟩ := hx4.step HX3.out HB3.out rfl
  have hG4 : s4.abs.Good := goodOf ha4 HG4.out
  clear hx4 HC4 HX3 HB3 HG4
  have hsrcA := Src.ofRd (cap := cA) ((HRA.out.below hb4).below (((Ext.refl w4).alloc (.cells #[] 5)).below))
  have hown0 : OwnB (w4.alloc (.cells #[] 5)) (.slice (some ⟨w4.heap.size, 0, none⟩) 0 0) [] :=
    Or.inr ⟨w4.heap.size, 0, #[], rfl, heap_alloc_new w4 _, Nat.le_refl _, by unfold maxLen; omega, Nat.le_refl _, rfl⟩
  have HSA := hid hsrcA
  have HO0 := hid hown0
  have HD4 := hid hD4
  have HB4 := hid hB4
  have HX4 := hid hb4
  have HA4 := hid ha4
  have HG4 := hid hG4
  clear hsrcA hown0 hD4 hB4 hb4 ha4 hG4
  go_wp2_with (at_builtin; go_must (refine wpList_append_B rfl _ _ rfl _ [] A rfl HO0.out _ rfl HSA.out (by simp; omega) ?_))
  intro v5 w5 hown5 hg5 hat5
  have hb45 : RowKit.Below w4.heap.size w4 w5 := ((Ext.refl w4).alloc _).below.grown hg5 (by simp) (fun g hg => by cases hg; exact Nat.le_refl _)
  have hfr5 : ∀ g, v5.ownBlock = some g → w4.heap.size ≤ g := fun g hg => by
    rcases hat5 with h | h
    · rw [h] at hg; cases hg; exact Nat.le_refl _
    · rw [h] at hg; simp at hg; omega
  have HO5 := hid hown5
  have HB45 := hid hb45
  have HF5 := hid hfr5
  have HSB := hid (Src.ofRd (cap := cB) ((HRB.out.below HX4.out).below hb45))
  clear hown5 hg5 hat5 hb45 hfr5 HO0 HSA
  go_wp2_with (at_builtin; go_must (refine wpList_append_B rfl _ _ rfl _ A B rfl HO5.out _ rfl HSB.out (by omega) ?_))
  intro v6 w6 hown6 hg6 hat6
  obtain ⟨C, hC⟩ : ∃ C, C = A ++ B := ⟨_, rfl⟩
  rw [← hC] at hown6
  have hCl : C.length ≤ 200 := by rw [hC]; simp; omega
  obtain ⟨aC, gC, oC, cC, hvC, hcC, hrC, hnC⟩ := hown6.rd
  have hb46 : RowKit.Below w4.heap.size w4 w6 := HB45.out.grown hg6 HB45.out.size (fun g hg => HF5.out g hg)
  have hfr6 : C ≠ [] → ¬ s4.Blk p gC := fun hne hx => by
    have h1 : v6.ownBlock = some gC := by rw [hvC, hrC.some hne]; rfl
    have h2 := HD4.out.lt gC hx
    rcases hat6 with h | h
    · rw [h] at h1
      have := HF5.out gC h1
      omega
    · rw [h] at h1
      simp at h1
      have := HB45.out.size
      omega
  subst hvC
  have hD6 := HD4.out.below hb46
  have hb6 := below_trans' HX4.out hb46
  have HB6 := HB4
  have HFR := hid hfr6
  have HRC := hid hrC
  have HCE := hid hC
  clear hown6 hg6 hat6 hb46 hfr6 hrC hC HO5 HSB HB45 HF5 HD4 HX4
  have hevc : deedA (cutA nX (m : Int)) ⟨1000, -1, false, [(nX, (A ++ B, A.length))]⟩ = (⟨1000, -1, false, [(nX, ((A ++ B).take m, ((A ++ B).take m).length))]⟩, 0) := by rw [cut1 (by omega)]; rw [if_neg (by omega)]; simp only [Int.toNat_natCast]; rw [List.length_take, Nat.min_eq_left hm]; rfl
  have hC7 := DiskCut_any w6 p s4 nX (m : Int) hD6 HG4.out
  rw [HA4.out, hevc] at hC7
  have HC7 := hid hC7
  have HG7 := hid (good_cut (HA4.out ▸ HG4.out) hevc)
  have HX6 := hid hb6
  have HD6 := hid hD6
  clear hC7 hevc hD6 hb6
  go_wp2_with fail
  refine HC7.out.mono ?_
  rintro e w7 ⟨x7, rfl, hx7⟩
  obtain ⟨s7, hD7, ha7, rfl, hbk7, hk7⟩ := hx7
  have hB7 : ∀ g, s7.Blk p g → w.heap.size ≤ g := fun g hg => (hbk7 g hg).elim (HB6.out g) (fun h1 => Nat.le_trans HX6.out.size h1)
  have hb7 : Below w.heap.size w w7 := HX6.out.trans (hk7.below (B := w.heap.size) HX6.out.size HB6.out)
  have hG7 : s7.abs.Good := goodOf ha7 HG7.out
  have hrC7 : RdS encB 1 w7 aC gC oC C := HRC.out.keeps hk7 (fun hne => HFR.out hne)
  have HFQ : Hid (C ≠ [] → ¬ s7.Blk p gC) := fun hne hx => (hbk7 gC hx).elim (HFR.out hne) (fun h => by have := HRC.out.lt hne; omega)
  clear hbk7 hk7 HC7 HG7 HX6 HD6 HRC HFR
  have hmC : m ≤ C.length := by rw [HCE.out]; exact hm
  have hmI : (m : Int) ≤ (C.length : Int) := by omega
  have HRC7 := hid hrC7
  clear hrC7 hm
  have hbx7 : Below w.heap.size w (w7.alloc (.cells #[.int .i64 q] 3)) := hb7.trans (((Ext.refl w7).alloc _).below.mono hb7.size)
  have hpl8 := (show bootA [q] (⟨1000, -1, false, [(nX, ((A ++ B).take m, ((A ++ B).take m).length))]⟩ : AD) = ⟨1000, -1, false, [(nX, ((A ++ B).take m, ((A ++ B).take m).length))]⟩ from boot1s _ _)
  have hC8 := DiskBoot_any (w7.alloc (.cells #[.int .i64 q] 3)) p s7 _ _ _ 1 [q] (hD7.ext ((Ext.refl w7).alloc _)) hG7 (rd_newI w7 3 [q] (cs := #[.int .i64 q]) rfl) (by simp) (by unfold maxLen; omega) (by simp) (fun _ hx => by have := hD7.lt _ hx; omega)
  have HG8 := hid (hG7.boot [q])
  rw [ha7] at hC8 HG8
  rw [hpl8] at hC8 HG8
  have HC8 := hid hC8
  have HB7 := hid hB7
  have HX7 := hid hbx7
  clear hC8 hD7 hG7 hB7 hb7 hbx7 ha7 hpl8
  go_wp2_with fail
  refine HC8.out.mono ?_
  rintro e w8 ⟨rfl, s8, hD8, ha8, hB8', hk8⟩
  have hB8 : ∀ g, s8.Blk p g → w.heap.size ≤ g := fun g hg => HB7.out g (hB8' g hg)
  have hb8 : Below w.heap.size w w8 := HX7.out.trans (hk8.below HX7.out.size HB7.out)
  have hG8 : s8.abs.Good := goodOf ha8 HG8.out
  have HRC8 := hid (HRC7.out.below (((Ext.refl w7).alloc (.cells #[.int .i64 q] 3)).below) |>.keeps hk8 (fun hne hx => HFQ.out hne hx))
  clear hB8' hk8 HC8 HB7 HX7 HG8
  rw [← HCE.out] at ha8
  obtain ⟨D, hDe⟩ : ∃ D, D = C.take m := ⟨_, rfl⟩
  rw [← hDe] at ha8
  have hDm : D.length = m := by rw [hDe, List.length_take, Nat.min_eq_left hmC]
  have HDM := hid hDm
  have HDE := hid hDe
  clear hDm hDe
  have hpl9 := (show readA nX ⟨1000, -1, false, [(nX, (D, D.length))]⟩ = (D, 0) from read1)
  have hC9 := DiskRead_any w8 p s8 nX hD8 hG8
  rw [ha8, hpl9] at hC9
  have HC9 := hid hC9
  have HB8 := hid hB8
  have HX8 := hid hb8
  have HD8 := hid hD8
  have HA8 := hid ha8
  have HG8 := hid hG8
  clear hC9 hD8 hG8 hB8 hb8 ha8 hpl9
  go_wp2_with fail
  refine HC9.out.mono ?_
  rintro e w9 ⟨vP, rfl, hownP, hfrP, hbr9⟩
  obtain ⟨aP, gP, oP, cP, hvP, hcP, hrP, hnP⟩ := hownP.rd
  subst hvP
  have hD9 := HD8.out.below hbr9
  have hb9 := below_trans' HX8.out hbr9
  have hB9 := HB8.out
  have ha9 := HA8.out
  have hG9 := HG8.out
  clear HC9 HB8 HX8 HD8 HA8 HG8 hownP
  obtain ⟨hsl, hrD⟩ := rd_take (HRC8.out.below hbr9) hcC hmC
  have HS0 := same_true w9 aP gP oP cP D aC gC oC cC (C.take m) hrP hrD (by rw [HDM.out]; omega) (by rw [List.length_take]; omega) HDE.out
  rw [List.length_take, Nat.min_eq_left hmC] at HS0
  have HS := hid HS0
  have hu := fun W (hW : Dk W p s8) => DiskUsed_any W p s8 hW (by rw [ha9]; simp [totL]; rw [HDM.out]; omega)
  have hdn : s8.down = false := by have := congrArg AD.down ha9; exact this
  rw [ha9, hdn] at hu
  simp only [Bool.false_eq_true, if_false, tot1] at hu
  rw [HDM.out] at hu
  have HU := hid hu
  have HD9 := hid hD9
  have HB9' := hid hb9
  clear hrP hcP hnP hfrP hrD hbr9 hD9 hG9 ha9 hB9 hb9 hu hdn HS0
  go_wp2_with fail
  refine HS.out.mono ?_
  rintro e w10 ⟨rfl, hE10⟩
  have HE10 := hid hE10
  clear hE10 HS
  go_wp2_with fail
  refine (HU.out _ (HD9.out.ext HE10.out)).mono ?_
  rintro e w11 ⟨rfl, hE11⟩
  have HB9 := hid (below_trans' (below_trans' HB9'.out HE10.out.below) hE11.below)
  clear hE11 HU
  go_wp2_with fail
  refine (DiskAwake _).mono ?_
  rintro e w12 ⟨rfl, hb12⟩
  have HB12 := hid (below_trans' HB9.out hb12)
  clear hb12
  go_wp2
  go_ret
  exact ⟨rfl, HB12.out⟩
theorem DiskCuts_any (w : World) (aA : Option Addr) (gA oA cA : Nat) (A : List UInt8) (aB : Option Addr) (gB oB cB : Nat) (B : List UInt8) (n : Int) (q : Int) (hA : RdS encB 1 w aA gA oA A) (hB : RdS encB 1 w aB gB oB B) (hAc : A.length ≤ cA) (hAm : cA ≤ maxLen) (hBc : B.length ≤ cB) (hBm : cB ≤ maxLen) : Calls Try.prog 4 #[.slice aA A.length cA, .slice aB B.length cB, .int .i64 n, .int .i64 q] w fun e w' => e = .returned (.bool true) ∧ Below w.heap.size w w' := by
  by_cases h1 : 100 < A.length
  · exact DiskCuts_great w aA gA oA cA A aB gB oB cB B n q hA hB hAc hAm hBc hBm (Or.inl h1)
  · by_cases h2 : 100 < B.length
    · exact DiskCuts_great w aA gA oA cA A aB gB oB cB B n q hA hB hAc hAm hBc hBm (Or.inr h2)
    · by_cases hn : n < 0 ∨ ((A ++ B).length : Int) < n
      · exact DiskCuts_high w aA gA oA cA A aB gB oB cB B n q hA hB hAc hAm hBc hBm (by omega) (by omega) hn
      · obtain ⟨m, rfl⟩ : ∃ m : Nat, n = (m : Int) := ⟨n.toNat, by omega⟩
        exact DiskCuts_fine w aA gA oA cA A aB gB oB cB B m q hA hB hAc hAm hBc hBm (by omega) (by omega) (by omega)
set_option maxRecDepth 100000 in
set_option maxHeartbeats 3200000 in
theorem DiskKeeps_great (w : World) (aA : Option Addr) (gA oA cA : Nat) (A : List UInt8) (aB : Option Addr) (gB oB cB : Nat) (B : List UInt8) (q : Int) (x : Int) (hx0 : 0 ≤ x) (hx1 : x ≤ 255) (hA : RdS encB 1 w aA gA oA A) (hB : RdS encB 1 w aB gB oB B) (hAc : A.length ≤ cA) (hAm : cA ≤ maxLen) (hBc : B.length ≤ cB) (hBm : cB ≤ maxLen) (hg : 100 < A.length ∨ 100 < B.length) :
    Calls Try.prog 3 #[.slice aA A.length cA, .slice aB B.length cB, .int .i64 q, .int .u8 x] w fun e w' => e = .returned (.bool true) ∧ Below w.heap.size w w' := by
  unfold maxLen at hAm hBm
  have HA := hid (DiskAwake w)
  clear hA hB
  by_cases h1 : 100 < A.length
  · clear hg
    go_enter Try.func3, Try.ntmps3
    go_wp2_with fail
    refine HA.out.mono ?_
    rintro e w1 ⟨rfl, hb⟩
    have HB := hid hb
    clear hb
    go_wp2
    go_ret
    exact ⟨rfl, HB.out⟩
  · have h2 : 100 < B.length := hg.resolve_left h1
    clear hg
    go_enter Try.func3, Try.ntmps3
    go_wp2_with fail
    refine HA.out.mono ?_
    rintro e w1 ⟨rfl, hb⟩
    have HB := hid hb
    clear hb
    go_wp2
    go_ret
    exact ⟨rfl, HB.out⟩
set_option maxRecDepth 100000 in
set_option maxHeartbeats 3200000 in
theorem DiskKeeps_small (w : World) (aA : Option Addr) (gA oA cA : Nat) (A : List UInt8) (aB : Option Addr) (gB oB cB : Nat) (B : List UInt8) (q : Int) (x : Int) (hx0 : 0 ≤ x) (hx1 : x ≤ 255) (hA : RdS encB 1 w aA gA oA A) (hB : RdS encB 1 w aB gB oB B) (hAc : A.length ≤ cA) (hAm : cA ≤ maxLen) (hBc : B.length ≤ cB) (hBm : cB ≤ maxLen) (hAs : A.length ≤ 100) (hBs : B.length ≤ 100) :
    Calls Try.prog 3 #[.slice aA A.length cA, .slice aB B.length cB, .int .i64 q, .int .u8 x] w fun e w' => e = .returned (.bool true) ∧ Below w.heap.size w w' := by
  unfold maxLen at hAm hBm
  have HRA := hid hA
  have HRB := hid hB
  have hgA : A ≠ [] → gA < w.heap.size := hA.lt
  have hgB : B ≠ [] → gB < w.heap.size := hB.lt
  clear hA hB
  go_enter Try.func3, Try.ntmps3
  go_wp2_with fail
  refine (DiskNew_any _ 1000).mono ?_
  rintro e w1 ⟨p, s1, rfl, hD1, ha1, hB1, hE1⟩
  have hb1 : Below w.heap.size w w1 := hE1.below
  replace ha1 : s1.abs = ⟨1000, -1, false, []⟩ := ha1
  have hG1 : s1.abs.Good := goodOf ha1 (goodNew 1000 (by omega) (by omega))
  clear hE1
  have hev2 : deedA (appendA nX A) ⟨1000, -1, false, []⟩ = (⟨1000, -1, false, [(nX, (A, 0))]⟩, 0) := append0 okX (by omega) (by omega)
  have hC2 := DiskAppend_any w1 p s1 nX aA gA oA cA A hD1 hG1 (HRA.out.below hb1) (by omega) (fun hne hx => by have h1 := hB1 _ hx; have h2 := hgA hne; omega)
  rw [ha1, hev2] at hC2
  have HC2 := hid hC2
  have HB1 := hid hB1
  have HX1 := hid hb1
  have HG2 := hid (good_append (ha1 ▸ hG1) hev2)
  clear hC2 hD1 hG1 hB1 hb1 ha1 hev2
  go_wp2_with fail
  refine HC2.out.mono ?_
  rintro e w2 ⟨x2, rfl, hx2⟩
  obtain ⟨s2, hD2, ha2, rfl, hB2, hb2⟩ := hx2.step HX1.out HB1.out rfl
  have hG2 : s2.abs.Good := goodOf ha2 HG2.out
  clear hx2 HC2 HX1 HB1 HG2
  have hev3 : deedA (syncA nX) ⟨1000, -1, false, [(nX, (A, 0))]⟩ = (⟨1000, -1, false, [(nX, (A, A.length))]⟩, 0) := sync1 (by omega)
  have hC3 := DiskSync_any w2 p s2 nX hD2 hG2
  rw [ha2, hev3] at hC3
  have HC3 := hid hC3
  have HB2 := hid hB2
  have HX2 := hid hb2
  have HG3 := hid (good_sync (ha2 ▸ hG2) hev3)
  clear hC3 hD2 hG2 hB2 hb2 ha2 hev3
  go_wp2_with fail
  refine HC3.out.mono ?_
  rintro e w3 ⟨x3, rfl, hx3⟩
  obtain ⟨s3, hD3, ha3, rfl, hB3, hb3⟩ := hx3.step HX2.out HB2.out rfl
  have hG3 : s3.abs.Good := goodOf ha3 HG3.out
  clear hx3 HC3 HX2 HB2 HG3
  have hf : 0 ≤ x % 3 ∧ x % 3 < 3 := by omega
  obtain ⟨d1, d2, d3, e1, e2, e3, hv1, hv2, hv3, hdn, j, hj, hrd⟩ := keeps_plain A B hAs hBs q (x % 3) hf
  have hFu := DiskFuse_any w3 p s3 (x % 3) hD3
  have hmx : max (x % 3) (-1) = x % 3 := by omega
  rw [hmx] at hFu
  have HFu := hid hFu
  have ha4 : DkS.abs { s3 with fuse := x % 3 } = ⟨1000, x % 3, false, [(nX, (A, A.length))]⟩ := by
    have h1 := congrArg AD.room ha3
    have h2 := congrArg AD.down ha3
    have h3 := congrArg AD.l ha3
    unfold DkS.abs at *
    simp only at *
    rw [h1, h2, h3]
  have hG4 : AD.Good (DkS.abs { s3 with fuse := x % 3 }) := by
    have h1 := hG3
    rw [ha3] at h1
    rw [ha4]
    exact ⟨h1.keys, h1.sure, h1.len, h1.tot, h1.room, by simp only; omega⟩
  have HB3 := hid hB3
  have HX3 := hid hb3
  have HA4 := hid ha4
  have HG4 := hid hG4
  have HV := hid (And.intro hv1 (And.intro hv2 (And.intro hv3 (And.intro hdn hrd))))
  clear hFu hmx hf ha4 hG4 hB3 hb3 ha3 hG3 hD3 hv1 hv2 hv3 hdn hrd
  go_wp2_with fail
  refine HFu.out.mono ?_
  rintro e w4 ⟨rfl, hD4, hk4⟩
  have hb4 : Below w.heap.size w w4 := HX3.out.trans (hk4.below (B := w.heap.size) HX3.out.size (fun g hg => HB3.out g (Or.inl hg)))
  obtain ⟨s4, hs4⟩ : ∃ s4 : DkS, s4 = { s3 with fuse := x % 3 } := ⟨_, rfl⟩
  have hB4 : ∀ g, s4.Blk p g → w.heap.size ≤ g := by rw [hs4]; exact HB3.out
  have ha4 := HA4.out
  have hG4 := HG4.out
  rw [← hs4] at hD4 ha4 hG4
  clear hk4 HFu HB3 HX3 HA4 HG4 hs4
  have hev5 : deedA (appendA nX B) ⟨1000, x % 3, false, [(nX, (A, A.length))]⟩ = (d1, e1) := HV.out.1
  have hC5 := DiskAppend_any w4 p s4 nX aB gB oB cB B hD4 hG4 (HRB.out.below hb4) (by omega) (fun hne hx => by have h1 := hB4 _ hx; have h2 := hgB hne; omega)
  rw [ha4, hev5] at hC5
  have HC5 := hid hC5
  have HB4 := hid hB4
  have HX4 := hid hb4
  have HG5 := hid (good_append (ha4 ▸ hG4) hev5)
  clear hC5 hD4 hG4 hB4 hb4 ha4 hev5
  go_wp2_with fail
  refine HC5.out.mono ?_
  rintro e w5 ⟨x5, rfl, hx5⟩
  obtain ⟨s5, hD5, ha5, rfl, hB5, hb5⟩ := hx5.step HX4.out HB4.out rfl
  have hG5 : s5.abs.Good := goodOf ha5 HG5.out
  clear hx5 HC5 HX4 HB4 HG5
  have hev6 : deedA (appendA nY B) d1 = (d2, e2) := HV.out.2.1
  have hC6 := DiskAppend_any w5 p s5 nY aB gB oB cB B hD5 hG5 (HRB.out.below hb5) (by omega) (fun hne hx => by have h1 := hB5 _ hx; have h2 := hgB hne; omega)
  rw [ha5, hev6] at hC6
  have HC6 := hid hC6
  have HB5 := hid hB5
  have HX5 := hid hb5
  have HG6 := hid (good_append (ha5 ▸ hG5) hev6)
  clear hC6 hD5 hG5 hB5 hb5 ha5 hev6
  go_wp2_with fail
  refine HC6.out.mono ?_
  rintro e w6 ⟨x6, rfl, hx6⟩
  obtain ⟨s6, hD6, ha6, rfl, hB6, hb6⟩ := hx6.step HX5.out HB5.out rfl
  have hG6 : s6.abs.Good := goodOf ha6 HG6.out
  clear hx6 HC6 HX5 HB5 HG6
  have hev7 : deedA (syncA nY) d2 = (d3, e3) := HV.out.2.2.1
  have hC7 := DiskSync_any w6 p s6 nY hD6 hG6
  rw [ha6, hev7] at hC7
  have HC7 := hid hC7
  have HB6 := hid hB6
  have HX6 := hid hb6
  have HG7 := hid (good_sync (ha6 ▸ hG6) hev7)
  clear hC7 hD6 hG6 hB6 hb6 ha6 hev7
  go_wp2_with fail
  refine HC7.out.mono ?_
  rintro e w7 ⟨x7, rfl, hx7⟩
  obtain ⟨s7, hD7, ha7, rfl, hB7, hb7⟩ := hx7.step HX6.out HB6.out rfl
  have hG7 : s7.abs.Good := goodOf ha7 HG7.out
  clear hx7 HC7 HX6 HB6 HG7
  obtain ⟨dB, hdB⟩ : ∃ dB, dB = bootA [q, q] d3 := ⟨_, rfl⟩
  have HDB := hid hdB
  clear hdB
  have hbx7 : Below w.heap.size w (w7.alloc (.cells #[.int .i64 q, .int .i64 q] 3)) := hb7.trans (((Ext.refl w7).alloc _).below.mono hb7.size)
  have hpl8 := (show bootA [q, q] d3 = dB from HDB.out.symm)
  have hC8 := DiskBoot_any (w7.alloc (.cells #[.int .i64 q, .int .i64 q] 3)) p s7 _ _ _ 2 [q, q] (hD7.ext ((Ext.refl w7).alloc _)) hG7 (rd_newI w7 3 [q, q] (cs := #[.int .i64 q, .int .i64 q]) rfl) (by simp) (by unfold maxLen; omega) (by simp) (fun _ hx => by have := hD7.lt _ hx; omega)
  have HG8 := hid (hG7.boot [q, q])
  rw [ha7] at hC8 HG8
  rw [hpl8] at hC8 HG8
  have HC8 := hid hC8
  have HB7 := hid hB7
  have HX7 := hid hbx7
  clear hC8 hD7 hG7 hB7 hb7 hbx7 ha7 hpl8
  go_wp2_with fail
  refine HC8.out.mono ?_
  rintro e w8 ⟨rfl, s8, hD8, ha8, hB8', hk8⟩
  have hB8 : ∀ g, s8.Blk p g → w.heap.size ≤ g := fun g hg => HB7.out g (hB8' g hg)
  have hb8 : Below w.heap.size w w8 := HX7.out.trans (hk8.below HX7.out.size HB7.out)
  have hG8 : s8.abs.Good := goodOf ha8 HG8.out
  clear hB8' hk8 HC8 HB7 HX7 HG8
  obtain ⟨P, hP⟩ : ∃ P, P = A ++ B.take j := ⟨_, rfl⟩
  have HPE := hid hP
  have hPl : P.length = A.length + j := by rw [hP]; simp; omega
  have h1 : A.length ≤ P.length := by omega
  have h2 : P.length ≤ A.length + B.length := by omega
  have HPL := hid hPl
  clear hP hPl
  have hpl9 := (show readA nX dB = (P, 0) from by rw [HPE.out, HDB.out]; exact HV.out.2.2.2.2)
  have hC9 := DiskRead_any w8 p s8 nX hD8 hG8
  rw [ha8, hpl9] at hC9
  have HC9 := hid hC9
  have HB8 := hid hB8
  have HX8 := hid hb8
  have HD8 := hid hD8
  have HA8 := hid ha8
  have HG8 := hid hG8
  clear hC9 hD8 hG8 hB8 hb8 ha8 hpl9
  go_wp2_with fail
  refine HC9.out.mono ?_
  rintro e w9 ⟨vP, rfl, hownP, hfrP, hbr9⟩
  obtain ⟨aP, gP, oP, cP, hvP, hcP, hrP, hnP⟩ := hownP.rd
  subst hvP
  have hD9 := HD8.out.below hbr9
  have hb9 := below_trans' HX8.out hbr9
  have hB9 := HB8.out
  have ha9 := HA8.out
  have hG9 := HG8.out
  clear HC9 HB8 HX8 HD8 HA8 HG8 hownP
  have hdw := DiskDown_any w9 p s8 hD9
  have hdn : s8.down = false := by
    have h3 := congrArg AD.down ha9
    have h4 := HV.out.2.2.2.1
    rw [← HDB.out] at h4
    exact h3.trans h4
  rw [hdn] at hdw
  have HDW := hid hdw
  obtain ⟨hs1, hr1⟩ := rd_take hrP hcP h1
  obtain ⟨v2, hs2, _, hr2, _⟩ := hrP.drop (P := Try.prog) Try.underlying22 sizeB h1 hcP hnP
  obtain ⟨hs3, hr3⟩ := rd_take (HRB.out.below hb9) hBc hj
  have e4 : P.take A.length = A := by rw [HPE.out]; simp
  have e5 : P.drop A.length = B.take j := by rw [HPE.out]; simp
  rw [e4] at hr1
  rw [e5] at hr2
  have hwr : IntKind.i64.wrap ((P.length : Int) - (A.length : Int)) = (j : Int) := by
    have h9 := HPL.out
    rw [IntWalk.i64_in _ (by omega)]
    omega
  have hjl : (B.take j).length = j := by rw [List.length_take]; omega
  obtain ⟨a2, g2, o2, c2, hv2, hc2, hrr2, hn2⟩ := hr2
  rw [hjl] at hv2
  subst hv2
  have HS1 : Hid (∀ W, Below w9.heap.size w9 W → Calls Try.prog 18 #[.slice aP A.length cP, .slice aA A.length cA] W fun e w' => e = .returned (.bool true) ∧ Ext W w') := fun W hW => same_true W aP gP oP cP A aA gA oA cA A (hr1.below hW) ((HRA.out.below hb9).below hW) (by omega) (by omega) rfl
  have HS2 : Hid (∀ W, Below w9.heap.size w9 W → Calls Try.prog 18 #[.slice a2 j c2, .slice aB j cB] W fun e w' => e = .returned (.bool true) ∧ Ext W w') := fun W hW => by
    have := same_true W a2 g2 o2 c2 (B.take j) aB gB oB cB (B.take j) (hrr2.below hW) (hr3.below hW) (by omega) (by omega) rfl
    rw [hjl] at this
    exact this
  have HB9 := hid hb9
  have h1i : (A.length : Int) ≤ (P.length : Int) := by omega
  have h2i : (P.length : Int) ≤ (A.length : Int) + (B.length : Int) := by omega
  have hjB : j ≤ B.length := hj
  clear hdw hdn hD9 hB9 ha9 hG9 hrP hfrP hbr9 hr1 hrr2 hr3 e4 e5 hjl hb9 hn2 HV
  go_wp2_with fail
  refine HDW.out.mono ?_
  rintro e w9' ⟨rfl, rfl⟩
  clear HDW
  go_wp2_with fail
  refine wp_region_C (fun W => Below w9.heap.size w9 W) (by kernel_rfl) ?_
  have hC0 : (fun W => Below w9.heap.size w9 W) w9.drew := ((Ext.refl w9).drew).below
  refine takeC (i := 0) (v := ?_) rfl (by kernel_rfl) (by kernel_rfl) (by kernel_rfl) (fun _ _ _ h => h) (by assumption) (Or.inl ⟨?_, ?_⟩) (fun K hK => ?_)
  rotate_left
  · rfl
  · (intro W hW; skip; go_simp; first | done | with_reducible rfl)
  (try go_simp)
  refine hK _ _ ?_
  clear hK K
  refine takeC (i := 1) (v := ?_) rfl (by kernel_rfl) (by kernel_rfl) (by kernel_rfl) (fun _ _ _ h => h) (by assumption) (Or.inl ⟨?_, ?_⟩) (fun K hK => ?_)
  rotate_left
  · rfl
  · (intro W hW; skip; go_simp; first | done | with_reducible rfl)
  (try go_simp)
  refine hK _ _ ?_
  clear hK K
  refine takeC (i := 2) (v := ?_) rfl (by kernel_rfl) (by kernel_rfl) (by kernel_rfl) (fun _ _ _ h => h) (by assumption) (Or.inl ⟨?_, ?_⟩) (fun K hK => ?_)
  rotate_left
  · rfl
  · (intro W hW; skip; go_simp; first | done | with_reducible rfl)
  (try go_simp)
  refine hK _ _ ?_
  clear hK K
  refine takeC (i := 3) (v := ?_) rfl (by kernel_rfl) (by kernel_rfl) (by kernel_rfl) (fun _ _ _ h => h) (by assumption) (Or.inl ⟨?_, ?_⟩) (fun K hK => ?_)
  rotate_left
  · rfl
  · (intro W hW; skip; go_simp; first | done | with_reducible rfl)
  (try go_simp)
  refine hK _ _ ?_
  clear hK K
  refine takeC (i := 4) (v := ?_) rfl (by kernel_rfl) (by kernel_rfl) (by kernel_rfl) (fun _ _ _ h => h) (by assumption) (Or.inl ⟨?_, ?_⟩) (fun K hK => ?_)
  rotate_left
  · rfl
  · (intro W hW; skip; go_simp; first | done | with_reducible rfl)
  (try go_simp)
  refine hK _ _ ?_
  clear hK K
  refine callC (k := 5) (by kernel_rfl) rfl ?_ (fun K hK => ?_)
  · rfl
  go_simp
  refine (HS1.out _ hC0).mono ?_
  rintro e w10 ⟨rfl, hE10⟩
  have hC1 : (fun W => Below w9.heap.size w9 W) w10 := hC0.trans (hE10.below.mono hC0.size)
  clear hE10 hC0
  go_wp2
  refine hK _ _ hC1 ?_
  clear hK K
  refine takeC (i := 6) (v := ?_) rfl (by kernel_rfl) (by kernel_rfl) (by kernel_rfl) (fun _ _ _ h => h) (by assumption) (Or.inl ⟨?_, ?_⟩) (fun K hK => ?_)
  rotate_left
  · rfl
  · (intro W hW; skip; go_simp; first | done | with_reducible rfl)
  (try go_simp)
  refine hK _ _ ?_
  clear hK K
  refine takeC (i := 7) (v := ?_) rfl (by kernel_rfl) (by kernel_rfl) (by kernel_rfl) (fun _ _ _ h => h) (by assumption) (Or.inl ⟨?_, ?_⟩) (fun K hK => ?_)
  rotate_left
  · rfl
  · (intro W hW; skip; go_simp; first | done | with_reducible rfl)
  (try go_simp)
  refine hK _ _ ?_
  clear hK K
  refine takeC (i := 8) (v := ?_) rfl (by kernel_rfl) (by kernel_rfl) (by kernel_rfl) (fun _ _ _ h => h) (by assumption) (Or.inl ⟨?_, ?_⟩) (fun K hK => ?_)
  rotate_left
  · rfl
  · (intro W hW; skip; go_simp; first | done | with_reducible rfl)
  (try go_simp)
  refine hK _ _ ?_
  clear hK K
  refine takeC (i := 9) (v := ?_) rfl (by kernel_rfl) (by kernel_rfl) (by kernel_rfl) (fun _ _ _ h => h) (by assumption) (Or.inl ⟨?_, ?_⟩) (fun K hK => ?_)
  rotate_left
  · rfl
  · (intro W hW; skip; go_simp; first | done | with_reducible rfl)
  (try go_simp)
  refine hK _ _ ?_
  clear hK K
  refine takeC (i := 10) (v := ?_) rfl (by kernel_rfl) (by kernel_rfl) (by kernel_rfl) (fun _ _ _ h => h) (by assumption) (Or.inl ⟨?_, ?_⟩) (fun K hK => ?_)
  rotate_left
  · rfl
  · (intro W hW; skip; go_simp; first | done | with_reducible rfl)
  (try go_simp)
  refine hK _ _ ?_
  clear hK K
  refine takeC (i := 11) (v := ?_) rfl (by kernel_rfl) (by kernel_rfl) (by kernel_rfl) (fun _ _ _ h => h) (by assumption) (Or.inl ⟨?_, ?_⟩) (fun K hK => ?_)
  rotate_left
  · rfl
  · (intro W hW; skip; go_simp; first | done | with_reducible rfl)
  (try go_simp)
  refine hK _ _ ?_
  clear hK K
  refine takeC (i := 12) (v := ?_) rfl (by kernel_rfl) (by kernel_rfl) (by kernel_rfl) (fun _ _ _ h => h) (by assumption) (Or.inl ⟨?_, ?_⟩) (fun K hK => ?_)
  rotate_left
  · rfl
  · (intro W hW; skip; go_simp; first | done | with_reducible rfl)
  (try go_simp)
  refine hK _ _ ?_
  clear hK K
  refine takeC (i := 13) (v := ?_) rfl (by kernel_rfl) (by kernel_rfl) (by kernel_rfl) (fun _ _ _ h => h) (by assumption) (Or.inl ⟨?_, ?_⟩) (fun K hK => ?_)
  rotate_left
  · rfl
  · (intro W hW; skip; go_simp; first | done | with_reducible rfl)
  (try go_simp)
  refine hK _ _ ?_
  clear hK K
  refine takeC (i := 14) (v := ?_) rfl (by kernel_rfl) (by kernel_rfl) (by kernel_rfl) (fun _ _ _ h => h) (by assumption) (Or.inl ⟨?_, ?_⟩) (fun K hK => ?_)
  rotate_left
  · rfl
  · (intro W hW; skip; go_simp; first | done | with_reducible rfl)
  (try go_simp)
  refine hK _ _ ?_
  clear hK K
  refine takeC (i := 15) (v := ?_) rfl (by kernel_rfl) (by kernel_rfl) (by kernel_rfl) (fun _ _ _ h => h) (by assumption) (Or.inl ⟨?_, ?_⟩) (fun K hK => ?_)
  rotate_left
  · rfl
  · (intro W hW; skip; go_simp; first | done | with_reducible rfl)
  (try go_simp)
  refine hK _ _ ?_
  clear hK K
  refine takeC (i := 16) (v := ?_) rfl (by kernel_rfl) (by kernel_rfl) (by kernel_rfl) (fun _ _ _ h => h) (by assumption) (Or.inl ⟨?_, ?_⟩) (fun K hK => ?_)
  rotate_left
  · rfl
  · (intro W hW; skip; go_simp; first | done | with_reducible rfl)
  (try go_simp)
  refine hK _ _ ?_
  clear hK K
  refine takeC (i := 17) (v := ?_) rfl (by kernel_rfl) (by kernel_rfl) (by kernel_rfl) (fun _ _ _ h => h) (by assumption) (Or.inl ⟨?_, ?_⟩) (fun K hK => ?_)
  rotate_left
  · rfl
  · (intro W hW; skip; go_simp; first | done | with_reducible rfl)
  (try go_simp)
  refine hK _ _ ?_
  clear hK K
  refine callC (k := 18) (by kernel_rfl) rfl ?_ (fun K hK => ?_)
  · rfl
  go_simp
  refine (HS2.out _ hC1).mono ?_
  rintro e w11 ⟨rfl, hE11⟩
  have hC2 : (fun W => Below w9.heap.size w9 W) w11 := hC1.trans (hE11.below.mono hC1.size)
  clear hE11 hC1
  go_wp2
  refine hK _ _ hC2 ?_
  clear hK K
  refine takeC (i := 19) (v := ?_) rfl (by kernel_rfl) (by kernel_rfl) (by kernel_rfl) (fun _ _ _ h => h) (by assumption) (Or.inl ⟨?_, ?_⟩) (fun K hK => ?_)
  rotate_left
  · rfl
  · (intro W hW; skip; go_simp; first | done | with_reducible rfl)
  (try go_simp)
  refine hK _ _ ?_
  clear hK K
  refine takeC (i := 20) (v := ?_) rfl (by kernel_rfl) (by kernel_rfl) (by kernel_rfl) (fun _ _ _ h => h) (by assumption) (Or.inl ⟨?_, ?_⟩) (fun K hK => ?_)
  rotate_left
  · rfl
  · (intro W hW; skip; go_simp; first | done | with_reducible rfl)
  (try go_simp)
  refine hK _ _ ?_
  clear hK K
  refine callC (k := 21) (by kernel_rfl) rfl ?_ (fun K hK => ?_)
  · rfl
  go_simp
  refine (DiskAwake _).mono ?_
  rintro e w12 ⟨rfl, hb12⟩
  have hC3 : (fun W => Below w9.heap.size w9 W) w12 := hC2.trans (hb12.mono hC2.size)
  clear hb12 hC2
  go_wp2
  refine hK _ _ hC3 ?_
  clear hK K
  refine takeC (i := 22) (v := ?_) rfl (by kernel_rfl) (by kernel_rfl) (by kernel_rfl) (fun _ _ _ h => h) (by assumption) (Or.inl ⟨?_, ?_⟩) (fun K hK => ?_)
  rotate_left
  · rfl
  · (intro W hW; skip; go_simp; first | done | with_reducible rfl)
  (try go_simp)
  refine hK _ _ ?_
  clear hK K
  refine takeC (i := 23) (v := ?_) rfl (by kernel_rfl) (by kernel_rfl) (by kernel_rfl) (fun _ _ _ h => h) (by assumption) (Or.inl ⟨?_, ?_⟩) (fun K hK => ?_)
  rotate_left
  · rfl
  · (intro W hW; skip; go_simp; first | done | with_reducible rfl)
  (try go_simp)
  refine hK _ _ ?_
  clear hK K
  refine doneC (by kernel_rfl) ?_
  have HB12 := hid (below_trans' HB9.out hC3)
  clear hC3
  go_wp2
  go_ret
  exact ⟨rfl, HB12.out⟩
theorem DiskKeeps_any (w : World) (aA : Option Addr) (gA oA cA : Nat) (A : List UInt8) (aB : Option Addr) (gB oB cB : Nat) (B : List UInt8) (q : Int) (x : Int) (hx0 : 0 ≤ x) (hx1 : x ≤ 255) (hA : RdS encB 1 w aA gA oA A) (hB : RdS encB 1 w aB gB oB B) (hAc : A.length ≤ cA) (hAm : cA ≤ maxLen) (hBc : B.length ≤ cB) (hBm : cB ≤ maxLen) : Calls Try.prog 3 #[.slice aA A.length cA, .slice aB B.length cB, .int .i64 q, .int .u8 x] w fun e w' => e = .returned (.bool true) ∧ Below w.heap.size w w' := by
  by_cases h1 : 100 < A.length
  · exact DiskKeeps_great w aA gA oA cA A aB gB oB cB B q x hx0 hx1 hA hB hAc hAm hBc hBm (Or.inl h1)
  · by_cases h2 : 100 < B.length
    · exact DiskKeeps_great w aA gA oA cA A aB gB oB cB B q x hx0 hx1 hA hB hAc hAm hBc hBm (Or.inr h2)
    · exact DiskKeeps_small w aA gA oA cA A aB gB oB cB B q x hx0 hx1 hA hB hAc hAm hBc hBm (by omega) (by omega)
end Go.Proofs.Ytopabknlgmihpaa
