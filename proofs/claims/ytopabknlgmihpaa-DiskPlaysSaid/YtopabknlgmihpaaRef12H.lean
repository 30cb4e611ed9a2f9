/- The document's disk: an element's cell is written; Sync, Cut. -/
import Derived.Test.YtopabknlgmihpaaRef12P
import Derived.Test.YtopabknlgmihpaaRef12G
import Derived.Test.YtopabknlgmihpaaRegionT
namespace Go.Proofs.Ytopabknlgmihpaa
open Go Go.RowKit Go.MapKept Go.ChangeMaps Go.Maps

theorem flat_set {α : Type} {enc : α → List Value} {k : Nat} (hk : ∀ x, (enc x).length = k) {y : α} {j : Nat} {u : Value} (hj : j < k) : ∀ {l : List α} {i : Nat} {x : α}, l[i]? = some x → enc y = (enc x).set j u → (l.set i y).flatMap enc = (l.flatMap enc).set (i * k + j) u
  | [], _, _, h, _ => by simp at h
  | a :: r, 0, x, h, hy => by
    simp only [List.getElem?_cons_zero, Option.some.injEq] at h
    subst h
    simp only [List.set_cons_zero, List.flatMap_cons, Nat.zero_mul, Nat.zero_add]
    rw [List.set_append_left _ _ (by rw [hk]; exact hj), hy]
  | a :: r, i + 1, x, h, hy => by
    simp only [List.getElem?_cons_succ] at h
    have he : (i + 1) * k + j - k = i * k + j := by rw [Nat.succ_mul]; omega
    simp only [List.set_cons_succ, List.flatMap_cons]
    rw [List.set_append_right _ _ (by rw [hk, Nat.succ_mul]; omega), hk, he, flat_set hk hj h hy]
section
variable {w w' : World} {q : Nat} {s : RkS}
theorem Rk.list (h : Rk w q s) {i : Nat} {x : RF} (hi : s.l[i]? = some x) : ∃ gL cL cur, s.v = .slice (some ⟨gL, 0, none⟩) s.l.length cL ∧ s.l.length ≤ cL ∧ cL ≤ maxLen ∧ w.heap[gL]? = some (.cells cur 88 (0, 0)) ∧ cur.size = cL * 3 ∧ cur.toList.take (s.l.length * 3) = s.l.flatMap encF := by
  rcases h.own.2 with ⟨_, h0⟩ | ⟨g, cap, cur, h1, _, h2, h3, h4, h5, h6⟩
  · have := (List.getElem?_eq_some_iff.1 hi).1
    omega
  · exact ⟨g, cap, cur, h1, h3, h4, h2, h5, h6⟩
/-- What a walk reads of an element. -/
def ElemC (w : World) (q gL n cL i : Nat) (x : RF) : Prop :=
  w.cell? ⟨q, 0, none⟩ = some (.slice (some ⟨gL, 0, none⟩) n cL) ∧ w.cell? ⟨gL, i * 3, none⟩ = some (.string x.name.1) ∧ w.cell? ⟨gL, i * 3 + 1, none⟩ = some (.slice x.aS x.S.length x.cS) ∧ w.cell? ⟨gL, i * 3 + 2, none⟩ = some (.slice x.aT x.T.length x.cT) ∧
  w.frozen? ⟨gL, i * 3 + 1, none⟩ = false ∧ w.frozen? ⟨gL, i * 3 + 2, none⟩ = false
theorem Rk.view (h : Rk w q s) {i : Nat} {x : RF} (hi : s.l[i]? = some x) : ∃ gL cL, s.v = .slice (some ⟨gL, 0, none⟩) s.l.length cL ∧ (∀ W, (Instr.indexAt 79 (.slice (some ⟨gL, 0, none⟩) s.l.length cL) (.int .i64 i)).run Try.prog W = .ok (.pointer (some ⟨gL, i * 3, none⟩)) W) ∧ gL ≠ q ∧ gL < w.heap.size := by
  obtain ⟨gL, cL, cur, hv, h1, h2, h3, h4, h5⟩ := h.list hi
  have hil : i < s.l.length := (List.getElem?_eq_some_iff.1 hi).1
  obtain ⟨a, g, off, cap, hv2, hc, hr, _⟩ := h.own.rd encF_len
  have ha := hr.some (fun e => by rw [e] at hil; simp at hil)
  rw [hv] at hv2
  simp only [Value.slice.injEq] at hv2
  obtain ⟨e1, _, e2⟩ := hv2
  rw [ha] at e1
  simp only [Option.some.injEq, Addr.mk.injEq] at e1
  obtain ⟨e3, e4, _⟩ := e1
  subst e3 e4 e2
  refine ⟨gL, cL, hv, fun W => ?_, fun e => h.vq (by rw [hv, e]; rfl), (Array.getElem?_eq_some_iff.1 h3).1⟩
  have := hr.index (P := Try.prog) Try.underlying79 sizeF hil cL W
  rw [ha] at this
  simpa using this
theorem Rk.elemC (h : Rk w q s) {i : Nat} {x : RF} (hi : s.l[i]? = some x) {gL n cL : Nat} (hv : s.v = .slice (some ⟨gL, 0, none⟩) n cL) : ElemC w q gL n cL i x := by
  obtain ⟨c0, _, _, _⟩ := h.cells
  obtain ⟨g', c', cur, hv', h1, h2, h3, h4, h5⟩ := h.list hi
  have hil : i < s.l.length := (List.getElem?_eq_some_iff.1 hi).1
  obtain ⟨a, g, off, cap, hv2, hc, hr, _⟩ := h.own.rd encF_len
  have ha := hr.some (fun e => by rw [e] at hil; simp at hil)
  rw [hv] at hv2 hv'
  simp only [Value.slice.injEq, Option.some.injEq, Addr.mk.injEq] at hv2 hv'
  obtain ⟨e1, _, e2⟩ := hv2
  rw [ha] at e1
  simp only [Option.some.injEq, Addr.mk.injEq] at e1
  obtain ⟨e3, e4, _⟩ := e1
  obtain ⟨⟨e5, _⟩, _, _⟩ := hv'
  subst e3 e4 e5
  obtain ⟨f0, f1, f2⟩ := RdF hr hi
  rw [hv] at c0
  simp only [Nat.zero_add] at f0 f1 f2
  exact ⟨c0, f0, f1, f2, by simp [World.frozen?, h3], by simp [World.frozen?, h3]⟩
/-- A cell of an element is written. -/
theorem Rk.setElem (h : Rk w q s) {i : Nat} {x y : RF} (hi : s.l[i]? = some x) {gL n cL : Nat} (hv : s.v = .slice (some ⟨gL, 0, none⟩) n cL) {j : Nat} {u : Value} (hj : j < 3) (hy : encF y = (encF x).set j u) (hok : RfOk w y)
    (hS : y.S ≠ [] → y.gS ≠ q ∧ y.gS ≠ gL) (hT : y.T ≠ [] → y.gT ≠ q ∧ y.gT ≠ gL) : Rk (w.setCell ⟨gL, i * 3 + j, none⟩ u) q { s with l := s.l.set i y } := by
  obtain ⟨g', c', cur, hv', h1, h2, h3, h4, h5⟩ := h.list hi
  rw [hv] at hv'
  simp only [Value.slice.injEq, Option.some.injEq, Addr.mk.injEq] at hv'
  obtain ⟨⟨e5, _⟩, e6, e7⟩ := hv'
  subst e5 e6 e7
  have hown : s.v.ownBlock = some gL := by rw [hv]; rfl
  have hqg : gL ≠ q := fun e => h.vq (by rw [hown, e])
  have hk := keeps_setCell w gL (i * 3 + j) u
  have hmem : ∀ f ∈ s.l.set i y, f ∈ s.l ∨ f = y := fun f hf => List.mem_or_eq_of_mem_set hf
  refine ⟨(hk.block q (h.lt q (Or.inl rfl)) (fun e => hqg e.symm)).trans h.cell, ⟨by simp only [List.length_set, flat_length encF_len], Or.inr ⟨gL, cL, cur.setIfInBounds (i * 3 + j) u, ?_, Nat.zero_le _, heap_setCell_at h3 u, ?_, h2, ?_, ?_⟩⟩, fun f hf => ?_, h.vq, fun f hf hn => ?_, fun f hf hn => ?_⟩
  · simp only [List.length_set]; exact hv
  · simp only [List.length_set]; exact h1
  · simpa using h4
  · simp only [List.length_set]
    rw [flat_set encF_len hj hi hy, ← h5, Array.toList_setIfInBounds, List.take_set]
  · rcases hmem f hf with h0 | h0
    · refine (h.ok f h0).keeps hk (fun hn e => (h.fs f h0 hn).2 (by rw [hown, e])) (fun hn e => (h.ft f h0 hn).2 (by rw [hown, e]))
    · subst h0
      exact hok.keeps hk (fun hn e => (hS hn).2 e) (fun hn e => (hT hn).2 e)
  · rcases hmem f hf with h0 | h0
    · exact h.fs f h0 hn
    · subst h0
      exact ⟨(hS hn).1, fun e => (hS hn).2 (by simp only at e; rw [hown] at e; simpa using e.symm)⟩
  · rcases hmem f hf with h0 | h0
    · exact h.ft f h0 hn
    · subst h0
      exact ⟨(hT hn).1, fun e => (hT hn).2 (by simp only at e; rw [hown] at e; simpa using e.symm)⟩
/-- An element's sure bytes are turned. -/
theorem Rk.sure (h : Rk w q s) {i : Nat} {x : RF} (hi : s.l[i]? = some x) {gL n cL : Nat} (hv : s.v = .slice (some ⟨gL, 0, none⟩) n cL) {aV : Option Addr} {gV oV cV : Nat} {bs : List UInt8} (hr : RdS encB 1 w aV gV oV bs) (hc : bs.length ≤ cV) (hg : bs ≠ [] → gV ≠ q ∧ gV ≠ gL) :
    Rk (w.setCell ⟨gL, i * 3 + 1, none⟩ (.slice aV bs.length cV)) q { s with l := s.l.set i { x with aS := aV, gS := gV, oS := oV, cS := cV, S := bs } } := by
  have hm := List.mem_of_getElem? hi
  have hok := h.ok x hm
  exact h.setElem hi hv (y := { x with aS := aV, gS := gV, oS := oV, cS := cV, S := bs }) (by omega) rfl ⟨hr, hok.t, hc, hok.tc⟩ hg (fun hn => ⟨(h.ft x hm hn).1, fun e => (h.ft x hm hn).2 (by rw [hv, e]; rfl)⟩)
/-- An element's tail is turned. -/
theorem Rk.tail (h : Rk w q s) {i : Nat} {x : RF} (hi : s.l[i]? = some x) {gL n cL : Nat} (hv : s.v = .slice (some ⟨gL, 0, none⟩) n cL) {aV : Option Addr} {gV oV cV : Nat} {bs : List UInt8} (hr : RdS encB 1 w aV gV oV bs) (hc : bs.length ≤ cV) (hg : bs ≠ [] → gV ≠ q ∧ gV ≠ gL) :
    Rk (w.setCell ⟨gL, i * 3 + 2, none⟩ (.slice aV bs.length cV)) q { s with l := s.l.set i { x with aT := aV, gT := gV, oT := oV, cT := cV, T := bs } } := by
  have hm := List.mem_of_getElem? hi
  have hok := h.ok x hm
  exact h.setElem hi hv (y := { x with aT := aV, gT := gV, oT := oV, cT := cV, T := bs }) (by omega) rfl ⟨hok.s, hr, hok.sc, hc⟩ (fun hn => ⟨(h.fs x hm hn).1, fun e => (h.fs x hm hn).2 (by rw [hv, e]; rfl)⟩) hg
theorem Rk.tail0 (h : Rk w q s) {i : Nat} {x : RF} (hi : s.l[i]? = some x) {gL n cL : Nat} (hv : s.v = .slice (some ⟨gL, 0, none⟩) n cL) :
    Rk (w.setCell ⟨gL, i * 3 + 2, none⟩ (.slice none 0 0)) q { s with l := s.l.set i { x with aT := none, gT := 0, oT := 0, cT := 0, T := [] } } :=
  h.tail hi hv (aV := none) (gV := 0) (oV := 0) (cV := 0) (bs := []) ⟨fun h => absurd rfl h, fun h => absurd rfl h, RdAt.nil⟩ (Nat.le_refl _) (fun h => absurd rfl h)
theorem blk_set {i : Nat} {y : RF} {g : Nat} (h : ({ s with l := s.l.set i y } : RkS).Blk q g) : s.Blk q g ∨ (y.S ≠ [] ∧ g = y.gS) ∨ (y.T ≠ [] ∧ g = y.gT) := by
  rcases h with h | h | ⟨f, hf, h⟩
  · exact Or.inl (Or.inl h)
  · exact Or.inl (Or.inr (Or.inl h))
  · rcases List.mem_or_eq_of_mem_set hf with h0 | h0
    · exact Or.inl (Or.inr (Or.inr ⟨f, h0, h⟩))
    · subst h0; exact Or.inr h
theorem set_get {α : Type} {l : List α} {i : Nat} {x y : α} (h : l[i]? = some x) : (l.set i y)[i]? = some y := by
  have := (List.getElem?_eq_some_iff.1 h).1
  simp [this]
/-- What a deed leaves. -/
def RPost (w : World) (q : Nat) (s : RkS) (r : RD × Int) (x : Int) (w' : World) : Prop := x = r.2 ∧ ∃ s', Rk w' q s' ∧ s'.abs = r.1 ∧ (∀ g, s'.Blk q g → s.Blk q g ∨ w.heap.size ≤ g) ∧ Keeps (s.Blk q) w w'
theorem deed_blk (s : RkS) (q g : Nat) : s.deed.Blk q g ↔ s.Blk q g := by
  unfold RkS.deed
  split <;> exact Iff.rfl
theorem deedD_dead {f : RD → RD × Int} (h : s.dead = true) : deedD f s.abs = (s.deed.abs, 15) := by
  have hd : s.down = true ∨ s.fuse = 0 := by
    unfold RkS.dead at h
    simpa using h
  unfold deedD RkS.deed
  rw [if_pos hd]
  exact if_pos hd
theorem deedD_live {f : RD → RD × Int} (h : s.dead = false) : deedD f s.abs = f s.deed.abs := by
  have hd : ¬ (s.down = true ∨ s.fuse = 0) := by
    unfold RkS.dead at h
    simpa using h
  unfold deedD RkS.deed
  rw [if_neg hd]
  exact if_neg hd
theorem RPost.dead {f : RD → RD × Int} (h : s.dead = true) (hr : Rk w' q s.deed) (hk : Keeps (· = q) w w') : RPost w q s (deedD f s.abs) 15 w' := by
  rw [deedD_dead h]
  exact ⟨rfl, s.deed, hr, rfl, fun g hg => Or.inl ((deed_blk s q g).1 hg), hk.mono (fun g _ e => Or.inl e)⟩
/-- Nothing but the words. -/
theorem RPost.still {f : RD → RD × Int} {x : Int} (h : s.dead = false) (hf : f s.deed.abs = (s.deed.abs, x)) (hr : Rk w' q s.deed) (hk : Keeps (· = q) w w') : RPost w q s (deedD f s.abs) x w' := by
  rw [deedD_live h, hf]
  exact ⟨rfl, s.deed, hr, rfl, fun g hg => Or.inl ((deed_blk s q g).1 hg), hk.mono (fun g _ e => Or.inl e)⟩
/-- Another list. -/
theorem RPost.list {f : RD → RD × Int} {r : RD} {s' : RkS} (h : s.dead = false) (hf : f s.deed.abs = (r, 0)) (hr : Rk w' q s') (ha : s'.abs = r) (hb : ∀ g, s'.Blk q g → s.Blk q g ∨ w.heap.size ≤ g) (hk : Keeps (s.Blk q) w w') : RPost w q s (deedD f s.abs) 0 w' := by
  rw [deedD_live h, hf]
  exact ⟨rfl, s', hr, ha, hb, hk⟩
end
theorem abs_atR {l : List RF} {n : SKey} {i : Nat} {x : RF} (hd : (l.map RF.out).Pairwise (fun x y => x.1 ≠ y.1)) (hi : l[i]? = some x) (hn : x.name = n) (z : List UInt8 × List UInt8) {y : RF} (hy : y.out = (n, z)) : aget (l.map RF.out) n = some (x.S, x.T) ∧ (l.set i y).map RF.out = aput (l.map RF.out) n z := by
  have hi2 : (l.map RF.out)[i]? = some (n, (x.S, x.T)) := by rw [List.getElem?_map, hi, ← hn]; rfl
  have hm := List.mem_of_getElem? hi2
  refine ⟨aget_some hd hm, ?_⟩
  unfold aput
  rw [if_pos (ahas_iff.2 ⟨_, hm, rfl⟩), map_put_at hd hi2, List.map_set, hy]
theorem abs_noR {l : List RF} {n : SKey} (h : atR l n < 0) : aget (l.map RF.out) n = none := by
  refine aget_none (fun p hp e => ?_)
  obtain ⟨f, hf, rfl⟩ := List.mem_map.1 hp
  unfold atR at h
  cases hx : l.findIdx? (fun f => decide (f.name = n)) with
  | none =>
    have := List.findIdx?_eq_none_iff.1 hx f hf
    simp only [decide_eq_false_iff_not] at this
    exact this e
  | some k =>
    rw [hx] at h
    simp only at h
    omega
set_option maxRecDepth 100000 in
set_option maxHeartbeats 3200000 in
theorem RefSync12_any (w : World) (q : Nat) (s : RkS) (n : SKey) (h : Rk w q s) (hl : s.l.length ≤ 1000) (hs : ∀ f ∈ s.l, f.S.length + f.T.length ≤ 1073741824) (hd : (s.l.map RF.out).Pairwise (fun x y => x.1 ≠ y.1)) (hb : -1 ≤ s.fuse) (hb2 : s.fuse ≤ 9223372036854775807) : Calls Try.prog 47 #[.pointer (some ⟨q, 0, none⟩), .string n.1] w (IntR (RPost w q s (deedD (syncD n) s.abs))) := by
  have HC := hid (RefDeed_any w q s h hb hb2)
  have hdl := deed_l s
  have HBK := hid (deed_blk s q)
  cases hdd : s.dead with
  | true =>
    have HR := hid (fun w' (hr : Rk w' q s.deed) (hk : Keeps (· = q) w w') => RPost.dead (f := syncD n) hdd hr hk)
    rw [hdd] at HC
    clear hdd hdl hs hd hl h
    go_enter Try.func47, Try.ntmps47
    go_wp2_with fail
    refine HC.out.mono ?_
    rintro e w1 ⟨rfl, hr, hk⟩
    have HP := hid (HR.out w1 hr hk)
    clear hr hk
    go_wp2
    go_ret
    exact IntR.mk HP.out
  | false =>
    rw [hdd] at HC
    have HST := hid (fun (x : Int) (hf : (syncD n) s.deed.abs = (s.deed.abs, x)) w' (hr : Rk w' q s.deed) (hk : Keeps (· = q) w w') => RPost.still (f := syncD n) hdd hf hr hk)
    have HLS := hid (fun (r : RD) (s' : RkS) w' (hf : (syncD n) s.deed.abs = (r, 0)) (hr : Rk w' q s') (ha : s'.abs = r) (hb : ∀ g, s'.Blk q g → s.Blk q g ∨ w.heap.size ≤ g) (hk : Keeps (s.Blk q) w w') => RPost.list (f := syncD n) hdd hf hr ha hb hk)
    have hA := fun W (hW : Rk W q s.deed) => RefAt_any W q s.deed n hW (by rw [hdl]; exact hl)
    have HABS := hid (show s.deed.abs.l = s.deed.l.map RF.out from rfl)
    rw [← hdl] at hl hs hd
    obtain ⟨d, hde⟩ : ∃ d, d = s.deed := ⟨_, rfl⟩
    rw [← hde] at HC HST HLS hA hl hs hd HBK HABS
    have HA := hid hA
    have HSZ := hid (h.lt)
    clear hdd hdl hA h hb hb2 hde
    rcases atR_is d.l n with hat | ⟨i, x, hk, hget, hnm⟩
    · have HN := hid (abs_noR hat)
      generalize atR d.l n = i at *
      have HS0 := hid (HST.out 8 (by unfold syncD; rw [HABS.out, HN.out]))
      clear hs hd
      go_enter Try.func47, Try.ntmps47
      go_wp2_with fail
      refine HC.out.mono ?_
      rintro e w1 ⟨rfl, hr1, hk1⟩
      have HRk := hid hr1
      have HK := hid hk1
      clear hr1 hk1
      go_wp2_with fail
      refine (HA.out _ HRk.out).mono ?_
      rintro e w2 ⟨rfl, hE2⟩
      have HP := hid (HS0.out w2 (HRk.out.ext hE2) (HK.out.trans (hE2.keeps (S := (· = q))) (fun _ _ e => e)))
      clear hE2
      go_wp2
      go_ret
      exact IntR.mk HP.out
    · have hmem := List.mem_of_getElem? hget
      have hkn : ¬ (i : Int) < 0 := by omega
      have hsx := hs x hmem
      have HHD := hid hd
      have HGET := hid hget
      have HNM := hid hnm
      rw [hk] at HA
      have HMEM := hid hmem
      have hil : i < d.l.length := (List.getElem?_eq_some_iff.1 hget).1
      clear hk hget hnm hmem hs hd
      go_enter Try.func47, Try.ntmps47
      go_wp2_with fail
      refine HC.out.mono ?_
      rintro e w1 ⟨rfl, hr1, hk1⟩
      have HRk1 := hid hr1
      have HK1 := hid hk1
      clear hr1 hk1
      go_wp2_with fail
      refine (HA.out _ HRk1.out).mono ?_
      rintro e w2 ⟨rfl, hE2⟩
      have HRk2 := hid (HRk1.out.ext hE2)
      have HK2 := hid (HK1.out.trans (hE2.keeps (S := (· = q))) (fun _ _ e => e))
      clear hE2
      obtain ⟨gL, cL, hv, hx, hgq, hglt⟩ := HRk2.out.view HGET.out
      have HV := hid hv
      obtain ⟨bs, hbs⟩ : ∃ bs, bs = x.S ++ x.T := ⟨_, rfl⟩
      have HBS := hid hbs
      have HALL := hid (fun W (hW : Below w2.heap.size w2 W) => RefAll_any W x ((HRk2.out.ok x HMEM.out).below hW) hsx)
      rw [← hbs] at HALL
      clear hbs
      have HEC := hid (fun W (hW : Below w2.heap.size w2 W) => (HRk2.out.below hW).elemC HGET.out HV.out)
      clear hv
      have hll : d.l.length = d.l.length := rfl
      generalize d.l.length = nl at *
      clear hll
      go_wp2_with fail
      refine wp_region_T (fun W => Below w2.heap.size w2 W) 15 (by kernel_rfl) ?_
      have hC0 : (fun W => Below w2.heap.size w2 W) w2.drew := ((Ext.refl w2).drew).below
      refine takeT (i := 0) (v := ?_) rfl (by kernel_rfl) (by kernel_rfl) (by kernel_rfl) (by kernel_rfl) (fun _ _ _ h => h) (by assumption) (Or.inl ⟨?_, ?_⟩) (fun K hK => ?_)
      rotate_left
      · rfl
      · (intro W hW; (obtain ⟨d0, f0, f1, f2, _, _⟩ := HEC.out W hW); go_simp; first | done | with_reducible rfl)
      (try go_simp)
      refine hK _ _ ?_
      clear hK K
      refine takeT (i := 1) (v := ?_) rfl (by kernel_rfl) (by kernel_rfl) (by kernel_rfl) (by kernel_rfl) (fun _ _ _ h => h) (by assumption) (Or.inl ⟨?_, ?_⟩) (fun K hK => ?_)
      rotate_left
      · rfl
      · (intro W hW; (obtain ⟨d0, f0, f1, f2, _, _⟩ := HEC.out W hW); go_simp; first | done | with_reducible rfl)
      (try go_simp)
      refine hK _ _ ?_
      clear hK K
      refine takeT (i := 2) (v := ?_) rfl (by kernel_rfl) (by kernel_rfl) (by kernel_rfl) (by kernel_rfl) (fun _ _ _ h => h) (by assumption) (Or.inl ⟨?_, ?_⟩) (fun K hK => ?_)
      rotate_left
      · rfl
      · (intro W hW; (obtain ⟨d0, f0, f1, f2, _, _⟩ := HEC.out W hW); go_simp; first | done | with_reducible rfl)
      (try go_simp)
      refine hK _ _ ?_
      clear hK K
      refine takeT (i := 3) (v := ?_) rfl (by kernel_rfl) (by kernel_rfl) (by kernel_rfl) (by kernel_rfl) (fun _ _ _ h => h) (by assumption) (Or.inl ⟨?_, ?_⟩) (fun K hK => ?_)
      rotate_left
      · rfl
      · (intro W hW; (obtain ⟨d0, f0, f1, f2, _, _⟩ := HEC.out W hW); go_simp; first | done | with_reducible rfl)
      (try go_simp)
      refine hK _ _ ?_
      clear hK K
      refine takeT (i := 4) (v := ?_) rfl (by kernel_rfl) (by kernel_rfl) (by kernel_rfl) (by kernel_rfl) (fun _ _ _ h => h) (by assumption) (Or.inl ⟨?_, ?_⟩) (fun K hK => ?_)
      rotate_left
      · rfl
      · (intro W hW; (obtain ⟨d0, f0, f1, f2, _, _⟩ := HEC.out W hW); go_simp; first | done | with_reducible rfl)
      (try go_simp)
      refine hK _ _ ?_
      clear hK K
      refine takeT (i := 5) (v := ?_) rfl (by kernel_rfl) (by kernel_rfl) (by kernel_rfl) (by kernel_rfl) (fun _ _ _ h => h) (by assumption) (Or.inl ⟨?_, ?_⟩) (fun K hK => ?_)
      rotate_left
      · rfl
      · (intro W hW; (obtain ⟨d0, f0, f1, f2, _, _⟩ := HEC.out W hW); go_simp; first | done | with_reducible rfl)
      (try go_simp)
      refine hK _ _ ?_
      clear hK K
      refine takeT (i := 6) (v := ?_) rfl (by kernel_rfl) (by kernel_rfl) (by kernel_rfl) (by kernel_rfl) (fun _ _ _ h => h) (by assumption) (Or.inl ⟨?_, ?_⟩) (fun K hK => ?_)
      rotate_left
      · rfl
      · (intro W hW; (obtain ⟨d0, f0, f1, f2, _, _⟩ := HEC.out W hW); go_simp; first | done | with_reducible rfl)
      (try go_simp)
      refine hK _ _ ?_
      clear hK K
      refine takeT (i := 7) (v := ?_) rfl (by kernel_rfl) (by kernel_rfl) (by kernel_rfl) (by kernel_rfl) (fun _ _ _ h => h) (by assumption) (Or.inl ⟨?_, ?_⟩) (fun K hK => ?_)
      rotate_left
      · rfl
      · (intro W hW; (obtain ⟨d0, f0, f1, f2, _, _⟩ := HEC.out W hW); go_simp; first | done | with_reducible rfl)
      (try go_simp)
      refine hK _ _ ?_
      clear hK K
      refine takeT (i := 8) (v := ?_) rfl (by kernel_rfl) (by kernel_rfl) (by kernel_rfl) (by kernel_rfl) (fun _ _ _ h => h) (by assumption) (Or.inl ⟨?_, ?_⟩) (fun K hK => ?_)
      rotate_left
      · rfl
      · (intro W hW; (obtain ⟨d0, f0, f1, f2, _, _⟩ := HEC.out W hW); go_simp; first | done | with_reducible rfl)
      (try go_simp)
      refine hK _ _ ?_
      clear hK K
      refine takeT (i := 9) (v := ?_) rfl (by kernel_rfl) (by kernel_rfl) (by kernel_rfl) (by kernel_rfl) (fun _ _ _ h => h) (by assumption) (Or.inl ⟨?_, ?_⟩) (fun K hK => ?_)
      rotate_left
      · rfl
      · (intro W hW; (obtain ⟨d0, f0, f1, f2, _, _⟩ := HEC.out W hW); go_simp; first | done | with_reducible rfl)
      (try go_simp)
      refine hK _ _ ?_
      clear hK K
      refine takeT (i := 10) (v := ?_) rfl (by kernel_rfl) (by kernel_rfl) (by kernel_rfl) (by kernel_rfl) (fun _ _ _ h => h) (by assumption) (Or.inl ⟨?_, ?_⟩) (fun K hK => ?_)
      rotate_left
      · rfl
      · (intro W hW; (obtain ⟨d0, f0, f1, f2, _, _⟩ := HEC.out W hW); go_simp; first | done | with_reducible rfl)
      (try go_simp)
      refine hK _ _ ?_
      clear hK K
      refine takeT (i := 11) (v := ?_) rfl (by kernel_rfl) (by kernel_rfl) (by kernel_rfl) (by kernel_rfl) (fun _ _ _ h => h) (by assumption) (Or.inl ⟨?_, ?_⟩) (fun K hK => ?_)
      rotate_left
      · rfl
      · (intro W hW; (obtain ⟨d0, f0, f1, f2, _, _⟩ := HEC.out W hW); go_simp; first | done | with_reducible rfl)
      (try go_simp)
      refine hK _ _ ?_
      clear hK K
      refine callT (k := 12) (by kernel_rfl) rfl ?_ (fun K hK => ?_)
      · rfl
      go_simp
      refine (HALL.out _ hC0).mono ?_
      rintro e w3 ⟨v, rfl, ho, hf, hb⟩
      go_wp2
      have hC1 : (fun W => Below w2.heap.size w2 W) w3 := hC0.trans (hb.mono (Nat.le_refl _))
      obtain ⟨aV, gV, oV, cV, rfl, hcV, hrV, _⟩ := ho.rd
      have HFV := hid (show bs ≠ [] → w2.heap.size ≤ gV from fun hn => by have := hf gV (by rw [hrV.some hn]; rfl); simpa using this)
      refine hK _ _ hC1 ?_
      clear hK K
      obtain ⟨d0, f0, f1, f2, z1, z2⟩ := HEC.out w3 hC1
      have HR4 := hid ((HRk2.out.below hC1).sure HGET.out HV.out hrV hcV (fun hn => ⟨by have := HFV.out hn; have := HRk2.out.lt q (Or.inl rfl); omega, by have := HFV.out hn; omega⟩))
      have HK4 := hid (show Keeps (s.Blk q) w (w3.setCell ⟨gL, i * 3 + 1, none⟩ (.slice aV bs.length cV)) from ((HK2.out.mono (T := s.Blk q) (fun g _ e => Or.inl e)).trans (below_keeps hC1) (fun _ _ e => e)).setCell (fun _ => (HBK.out gL).1 (Or.inr (Or.inl (by rw [HV.out]; rfl)))) _)
      refine takeT (i := 13) (v := ?_) rfl (by kernel_rfl) (by kernel_rfl) (by kernel_rfl) (by kernel_rfl) (fun _ _ _ h => h) (by assumption) (Or.inl ⟨?_, ?_⟩) (fun K hK => ?_)
      rotate_left
      · rfl
      · (intro W hW; (obtain ⟨d0, f0, f1, f2, _, _⟩ := HEC.out W hW); go_simp; first | done | with_reducible rfl)
      (try go_simp)
      refine hK _ _ ?_
      clear hK K
      refine takeT (i := 14) (v := ?_) rfl (by kernel_rfl) (by kernel_rfl) (by kernel_rfl) (by kernel_rfl) (fun _ _ _ h => h) (by assumption) (Or.inl ⟨?_, ?_⟩) (fun K hK => ?_)
      rotate_left
      · rfl
      · (intro W hW; (obtain ⟨d0, f0, f1, f2, _, _⟩ := HEC.out W hW); go_simp; first | done | with_reducible rfl)
      (try go_simp)
      refine hK _ _ ?_
      clear hK K
      refine lastT (by kernel_rfl) rfl ?_ (fun K hK => ?_)
      · rfl
      go_simp
      refine hK _ _ ?_
      clear hK K
      refine doneT (by kernel_rfl) ?_
      clear d0 f0 f1 f2 z1 z2 hb hf ho
      obtain ⟨w4, hw4⟩ : ∃ w4, w4 = w3.setCell ⟨gL, i * 3 + 1, none⟩ (.slice aV bs.length cV) := ⟨_, rfl⟩
      rw [← hw4] at HR4 HK4 ⊢
      obtain ⟨d0, f0, f1, f2, z1, z2⟩ := HR4.out.elemC (set_get HGET.out) HV.out
      clear hw4 hC0 hC1 hrV hcV
      have HK5 := hid (HK4.out.setCell (p := ⟨gL, i * 3 + 2, none⟩) (fun _ => (HBK.out gL).1 (Or.inr (Or.inl (by rw [HV.out]; rfl)))) (.slice none 0 0))
      have HF5 := hid (HR4.out.tail0 (set_get HGET.out) HV.out)
      have hat5 := abs_atR HHD.out HGET.out HNM.out (bs, []) (y := { x with aS := aV, gS := gV, oS := oV, cS := cV, S := bs, aT := none, gT := 0, oT := 0, cT := 0, T := [] }) (by unfold RF.out; simp only [HNM.out])
      have HP5 := hid (HLS.out { d.abs with l := aput d.abs.l n (bs, []) } _ _ (by unfold syncD; rw [HABS.out, hat5.1]; simp only [HBS.out]) HF5.out (by
        unfold RkS.abs
        simp only [List.set_set]
        rw [hat5.2]) (fun g hg => by
        rcases blk_set hg with h0 | ⟨h0, rfl⟩ | ⟨h0, _⟩
        · rcases blk_set h0 with h1 | ⟨h1, rfl⟩ | ⟨h1, rfl⟩
          · exact Or.inl ((HBK.out g).1 h1)
          · exact Or.inr (Nat.le_trans HK2.out.size (HFV.out h1))
          · exact Or.inl ((HBK.out _).1 (Or.inr (Or.inr ⟨x, HMEM.out, Or.inr ⟨h1, rfl⟩⟩)))
        · exact Or.inr (Nat.le_trans HK2.out.size (HFV.out h0))
        · exact absurd rfl h0) HK5.out)
      clear hat5
      go_wp2
      go_ret
      exact IntR.mk HP5.out
set_option maxRecDepth 100000 in
set_option maxHeartbeats 3200000 in
theorem RefCut12_any (w : World) (q : Nat) (s : RkS) (n : SKey) (c : Int) (h : Rk w q s) (hl : s.l.length ≤ 1000) (hs : ∀ f ∈ s.l, f.S.length + f.T.length ≤ 1073741824) (hd : (s.l.map RF.out).Pairwise (fun x y => x.1 ≠ y.1)) (hb : -1 ≤ s.fuse) (hb2 : s.fuse ≤ 9223372036854775807) : Calls Try.prog 52 #[.pointer (some ⟨q, 0, none⟩), .string n.1, .int .i64 c] w (IntR (RPost w q s (deedD (cutD n c) s.abs))) := by
  have HC := hid (RefDeed_any w q s h hb hb2)
  have hdl := deed_l s
  have HBK := hid (deed_blk s q)
  cases hdd : s.dead with
  | true =>
    have HR := hid (fun w' (hr : Rk w' q s.deed) (hk : Keeps (· = q) w w') => RPost.dead (f := cutD n c) hdd hr hk)
    rw [hdd] at HC
    clear hdd hdl hs hd hl h
    go_enter Try.func52, Try.ntmps52
    go_wp2_with fail
    refine HC.out.mono ?_
    rintro e w1 ⟨rfl, hr, hk⟩
    have HP := hid (HR.out w1 hr hk)
    clear hr hk
    go_wp2
    go_ret
    exact IntR.mk HP.out
  | false =>
    rw [hdd] at HC
    have HST := hid (fun (x : Int) (hf : (cutD n c) s.deed.abs = (s.deed.abs, x)) w' (hr : Rk w' q s.deed) (hk : Keeps (· = q) w w') => RPost.still (f := cutD n c) hdd hf hr hk)
    have HLS := hid (fun (r : RD) (s' : RkS) w' (hf : (cutD n c) s.deed.abs = (r, 0)) (hr : Rk w' q s') (ha : s'.abs = r) (hb : ∀ g, s'.Blk q g → s.Blk q g ∨ w.heap.size ≤ g) (hk : Keeps (s.Blk q) w w') => RPost.list (f := cutD n c) hdd hf hr ha hb hk)
    have hA := fun W (hW : Rk W q s.deed) => RefAt_any W q s.deed n hW (by rw [hdl]; exact hl)
    have HABS := hid (show s.deed.abs.l = s.deed.l.map RF.out from rfl)
    rw [← hdl] at hl hs hd
    obtain ⟨d, hde⟩ : ∃ d, d = s.deed := ⟨_, rfl⟩
    rw [← hde] at HC HST HLS hA hl hs hd HBK HABS
    have HA := hid hA
    have HSZ := hid (h.lt)
    clear hdd hdl hA h hb hb2 hde
    rcases atR_is d.l n with hat | ⟨i, x, hk, hget, hnm⟩
    · have HN := hid (abs_noR hat)
      generalize atR d.l n = i at *
      have HS0 := hid (HST.out 8 (by unfold cutD; rw [HABS.out, HN.out]))
      clear hs hd
      go_enter Try.func52, Try.ntmps52
      go_wp2_with fail
      refine HC.out.mono ?_
      rintro e w1 ⟨rfl, hr1, hk1⟩
      have HRk := hid hr1
      have HK := hid hk1
      clear hr1 hk1
      go_wp2_with fail
      refine (HA.out _ HRk.out).mono ?_
      rintro e w2 ⟨rfl, hE2⟩
      have HP := hid (HS0.out w2 (HRk.out.ext hE2) (HK.out.trans (hE2.keeps (S := (· = q))) (fun _ _ e => e)))
      clear hE2
      go_wp2
      go_ret
      exact IntR.mk HP.out
    · have hmem := List.mem_of_getElem? hget
      have hkn : ¬ (i : Int) < 0 := by omega
      have hsx := hs x hmem
      have HHD := hid hd
      have HGET := hid hget
      have HNM := hid hnm
      rw [hk] at HA
      have HMEM := hid hmem
      have hil : i < d.l.length := (List.getElem?_eq_some_iff.1 hget).1
      clear hk hget hnm hmem hs hd
      go_enter Try.func52, Try.ntmps52
      go_wp2_with fail
      refine HC.out.mono ?_
      rintro e w1 ⟨rfl, hr1, hk1⟩
      have HRk1 := hid hr1
      have HK1 := hid hk1
      clear hr1 hk1
      go_wp2_with fail
      refine (HA.out _ HRk1.out).mono ?_
      rintro e w2 ⟨rfl, hE2⟩
      have HRk2 := hid (HRk1.out.ext hE2)
      have HK2 := hid (HK1.out.trans (hE2.keeps (S := (· = q))) (fun _ _ e => e))
      clear hE2
      obtain ⟨gL, cL, hv, hx, hgq, hglt⟩ := HRk2.out.view HGET.out
      have HV := hid hv
      obtain ⟨bs, hbs⟩ : ∃ bs, bs = x.S ++ x.T := ⟨_, rfl⟩
      have HBS := hid hbs
      have HALL := hid (fun W (hW : Below w2.heap.size w2 W) => RefAll_any W x ((HRk2.out.ok x HMEM.out).below hW) hsx)
      rw [← hbs] at HALL
      clear hbs
      have HEC := hid (fun W (hW : Below w2.heap.size w2 W) => (HRk2.out.below hW).elemC HGET.out HV.out)
      clear hv
      have hll : d.l.length = d.l.length := rfl
      generalize d.l.length = nl at *
      clear hll
      obtain ⟨d0, f0, f1, f2, z1, z2⟩ := HEC.out w2 (Below.refl _ _)
      go_wp2_with fail
      refine (HALL.out _ (Below.refl _ _)).mono ?_
      rintro e w3 ⟨v, rfl, ho, hf, hb⟩
      clear d0 f0 f1 f2 z1 z2
      have hbl : bs.length ≤ 1073741824 := by rw [HBS.out, List.length_append]; exact hsx
      have hC1 : Below w2.heap.size w2 w3 := hb
      obtain ⟨aV, gV, oV, cV, rfl, hcV, hrV, _⟩ := ho.rd
      have HFV := hid (show bs ≠ [] → w2.heap.size ≤ gV from fun hn => by have := hf gV (by rw [hrV.some hn]; rfl); simpa using this)
      by_cases hbad : c < 0 ∨ (bs.length : Int) < c
      · have HP5 := hid (HST.out 6 (by unfold cutD; rw [HABS.out, (abs_atR HHD.out HGET.out HNM.out (bs, []) (y := { x with S := bs, T := [] }) (by unfold RF.out; simp only [HNM.out])).1]; simp only; rw [← HBS.out, if_pos hbad]) w3 (HRk2.out.below hC1) (HK2.out.trans (below_keeps hC1) (fun _ _ e => e)))
        clear hC1 hb hf ho hrV
        have hb1 : c < 0 ∨ ¬ c < 0 := by omega
        rcases hb1 with hb1 | hb1
        · clear hbad
          generalize bs.length = bl at *
          go_wp2
          go_ret
          exact IntR.mk HP5.out
        · have hb2 : (bs.length : Int) < c := by omega
          clear hbad
          generalize bs.length = bl at *
          go_wp2
          go_ret
          exact IntR.mk HP5.out
      · have hc0 : 0 ≤ c := by omega
        obtain ⟨k, rfl⟩ := Int.eq_ofNat_of_zero_le hc0
        have hkb : k ≤ bs.length := by omega
        have hn1 : ¬ (k : Int) < 0 := by omega
        have hn2 : ¬ (bs.length : Int) < (k : Int) := by omega
        obtain ⟨hsl, hot⟩ := ho.cutKeep hkb
        obtain ⟨aV2, gV2, oV2, cV2, hv2, hcV2, hrV2, _⟩ := hot.rd
        have hlk : (bs.take k).length = k := by rw [List.length_take, Nat.min_eq_left hkb]
        rw [hlk] at hv2
        simp only [Value.slice.injEq] at hv2
        obtain ⟨e1, _, e2⟩ := hv2
        subst e1 e2
        have HFV2 := hid (show bs.take k ≠ [] → w2.heap.size ≤ gV2 from fun hn => by have := hf gV2 (by rw [hrV2.some hn]; rfl); simpa using this)
        have hC2 : Below w2.heap.size w2 w3.drew := bdrewN hC1 1
        have HR4 := hid ((HRk2.out.below hC2).sure HGET.out HV.out (hrV2.below ((Ext.refl w3).drew).below) hcV2 (fun hn => ⟨by have := HFV2.out hn; have := HRk2.out.lt q (Or.inl rfl); omega, by have := HFV2.out hn; omega⟩))
        rw [hlk] at HR4
        have HK4 := hid (show Keeps (s.Blk q) w (w3.drew.setCell ⟨gL, i * 3 + 1, none⟩ (.slice aV k cV)) from ((HK2.out.mono (T := s.Blk q) (fun g _ e => Or.inl e)).trans (below_keeps hC2) (fun _ _ e => e)).setCell (fun _ => (HBK.out gL).1 (Or.inr (Or.inl (by rw [HV.out]; rfl)))) _)
        have HEC3 := hid (fun W (hW : Below w3.heap.size w3 W) => HEC.out W (hC1.trans (hW.mono hC1.size)))
        have HSX := hid (show cutD n (k : Int) d.abs = ({ d.abs with l := aput d.abs.l n (bs.take k, []) }, 0) by
          unfold cutD
          rw [HABS.out, (abs_atR HHD.out HGET.out HNM.out (bs, []) (y := { x with S := bs, T := [] }) (by unfold RF.out; simp only [HNM.out])).1]
          simp only
          rw [← HBS.out, if_neg hbad, Int.toNat_natCast])
        clear hbad hlk hf hb ho hot hrV hrV2 hc0 hcV hcV2
        obtain ⟨d0, f0, f1, f2, z1, z2⟩ := HEC3.out w3 (Below.refl _ _)
        generalize hbl2 : bs.length = bl at *
        clear hbl2
        go_wp2_with fail
        refine wp_region_T (fun W => Below w3.heap.size w3 W) 10 (by kernel_rfl) ?_
        have hC0 : (fun W => Below w3.heap.size w3 W) w3.drew := ((Ext.refl w3).drew).below
        refine takeT (i := 0) (v := ?_) rfl (by kernel_rfl) (by kernel_rfl) (by kernel_rfl) (by kernel_rfl) (fun _ _ _ h => h) (by assumption) (Or.inl ⟨?_, ?_⟩) (fun K hK => ?_)
        rotate_left
        · rfl
        · (intro W hW; (obtain ⟨d0, f0, f1, f2, _, _⟩ := HEC3.out W hW); go_simp; first | done | with_reducible rfl)
        (try go_simp)
        refine hK _ _ ?_
        clear hK K
        refine takeT (i := 1) (v := ?_) rfl (by kernel_rfl) (by kernel_rfl) (by kernel_rfl) (by kernel_rfl) (fun _ _ _ h => h) (by assumption) (Or.inl ⟨?_, ?_⟩) (fun K hK => ?_)
        rotate_left
        · rfl
        · (intro W hW; (obtain ⟨d0, f0, f1, f2, _, _⟩ := HEC3.out W hW); go_simp; first | done | with_reducible rfl)
        (try go_simp)
        refine hK _ _ ?_
        clear hK K
        refine takeT (i := 2) (v := ?_) rfl (by kernel_rfl) (by kernel_rfl) (by kernel_rfl) (by kernel_rfl) (fun _ _ _ h => h) (by assumption) (Or.inl ⟨?_, ?_⟩) (fun K hK => ?_)
        rotate_left
        · rfl
        · (intro W hW; (obtain ⟨d0, f0, f1, f2, _, _⟩ := HEC3.out W hW); go_simp; first | done | with_reducible rfl)
        (try go_simp)
        refine hK _ _ ?_
        clear hK K
        refine takeT (i := 3) (v := ?_) rfl (by kernel_rfl) (by kernel_rfl) (by kernel_rfl) (by kernel_rfl) (fun _ _ _ h => h) (by assumption) (Or.inl ⟨?_, ?_⟩) (fun K hK => ?_)
        rotate_left
        · rfl
        · (intro W hW; (obtain ⟨d0, f0, f1, f2, _, _⟩ := HEC3.out W hW); go_simp; first | done | with_reducible rfl)
        (try go_simp)
        refine hK _ _ ?_
        clear hK K
        refine takeT (i := 4) (v := ?_) rfl (by kernel_rfl) (by kernel_rfl) (by kernel_rfl) (by kernel_rfl) (fun _ _ _ h => h) (by assumption) (Or.inl ⟨?_, ?_⟩) (fun K hK => ?_)
        rotate_left
        · rfl
        · (intro W hW; (obtain ⟨d0, f0, f1, f2, _, _⟩ := HEC3.out W hW); go_simp; first | done | with_reducible rfl)
        (try go_simp)
        refine hK _ _ ?_
        clear hK K
        refine takeT (i := 5) (v := ?_) rfl (by kernel_rfl) (by kernel_rfl) (by kernel_rfl) (by kernel_rfl) (fun _ _ _ h => h) (by assumption) (Or.inl ⟨?_, ?_⟩) (fun K hK => ?_)
        rotate_left
        · rfl
        · (intro W hW; (obtain ⟨d0, f0, f1, f2, _, _⟩ := HEC3.out W hW); go_simp; first | done | with_reducible rfl)
        (try go_simp)
        refine hK _ _ ?_
        clear hK K
        refine takeT (i := 6) (v := ?_) rfl (by kernel_rfl) (by kernel_rfl) (by kernel_rfl) (by kernel_rfl) (fun _ _ _ h => h) (by assumption) (Or.inl ⟨?_, ?_⟩) (fun K hK => ?_)
        rotate_left
        · rfl
        · (intro W hW; (obtain ⟨d0, f0, f1, f2, _, _⟩ := HEC3.out W hW); go_simp; first | done | with_reducible rfl)
        (try go_simp)
        refine hK _ _ ?_
        clear hK K
        refine takeT (i := 7) (v := ?_) rfl (by kernel_rfl) (by kernel_rfl) (by kernel_rfl) (by kernel_rfl) (fun _ _ _ h => h) (by assumption) (Or.inl ⟨?_, ?_⟩) (fun K hK => ?_)
        rotate_left
        · rfl
        · (intro W hW; (obtain ⟨d0, f0, f1, f2, _, _⟩ := HEC3.out W hW); go_simp; first | done | with_reducible rfl)
        (try go_simp)
        refine hK _ _ ?_
        clear hK K
        refine takeT (i := 8) (v := ?_) rfl (by kernel_rfl) (by kernel_rfl) (by kernel_rfl) (by kernel_rfl) (fun _ _ _ h => h) (by assumption) (Or.inl ⟨?_, ?_⟩) (fun K hK => ?_)
        rotate_left
        · rfl
        · (intro W hW; (obtain ⟨d0, f0, f1, f2, _, _⟩ := HEC3.out W hW); go_simp; first | done | with_reducible rfl)
        (try go_simp)
        refine hK _ _ ?_
        clear hK K
        refine takeT (i := 9) (v := ?_) rfl (by kernel_rfl) (by kernel_rfl) (by kernel_rfl) (by kernel_rfl) (fun _ _ _ h => h) (by assumption) (Or.inl ⟨?_, ?_⟩) (fun K hK => ?_)
        rotate_left
        · rfl
        · (intro W hW; (obtain ⟨d0, f0, f1, f2, _, _⟩ := HEC3.out W hW); go_simp; first | done | with_reducible rfl)
        (try go_simp)
        refine hK _ _ ?_
        clear hK K
        refine lastT (by kernel_rfl) rfl ?_ (fun K hK => ?_)
        · rfl
        go_simp
        refine hK _ _ ?_
        clear hK K
        refine doneT (by kernel_rfl) ?_
        clear d0 f0 f1 f2 z1 z2
        obtain ⟨w4, hw4⟩ : ∃ w4, w4 = (w3.setCell ⟨gL, i * 3 + 1, none⟩ (.slice aV k cV)).drew := ⟨_, rfl⟩
        rw [show w3.drew.setCell ⟨gL, i * 3 + 1, none⟩ (.slice aV k cV) = w4 by rw [hw4]; rfl] at HR4 HK4
        rw [← hw4]
        obtain ⟨d0, f0, f1, f2, z1, z2⟩ := HR4.out.elemC (set_get HGET.out) HV.out
        clear hw4 hC0 hC1 hC2
        have HK5 := hid (HK4.out.setCell (p := ⟨gL, i * 3 + 2, none⟩) (fun _ => (HBK.out gL).1 (Or.inr (Or.inl (by rw [HV.out]; rfl)))) (.slice none 0 0))
        have HF5 := hid (HR4.out.tail0 (set_get HGET.out) HV.out)
        have HP5 := hid (HLS.out { d.abs with l := aput d.abs.l n (bs.take k, []) } _ _ HSX.out HF5.out (by
          unfold RkS.abs
          simp only [List.set_set]
          rw [(abs_atR HHD.out HGET.out HNM.out (bs.take k, []) (by unfold RF.out; simp only [HNM.out])).2]) (fun g hg => by
          rcases blk_set hg with h0 | ⟨h0, rfl⟩ | ⟨h0, _⟩
          · rcases blk_set h0 with h1 | ⟨h1, rfl⟩ | ⟨h1, rfl⟩
            · exact Or.inl ((HBK.out g).1 h1)
            · exact Or.inr (Nat.le_trans HK2.out.size (HFV2.out h1))
            · exact Or.inl ((HBK.out _).1 (Or.inr (Or.inr ⟨x, HMEM.out, Or.inr ⟨h1, rfl⟩⟩)))
          · exact Or.inr (Nat.le_trans HK2.out.size (HFV2.out h0))
          · exact absurd rfl h0) HK5.out)
        go_wp2
        go_ret
        exact IntR.mk HP5.out
end Go.Proofs.Ytopabknlgmihpaa
