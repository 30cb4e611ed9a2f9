/- Acts on the document's disk: want. -/
import Derived.Test.YtopabknlgmihpaaRef12J
import Derived.Test.YtopabknlgmihpaaDiskAct
namespace Go.Proofs.Ytopabknlgmihpaa
open Go Go.RowKit Go.MapKept Go.ChangeMaps Go.Maps

/-- The document's disk within its bounds. -/
structure RkG (s : RkS) : Prop where
  len : s.l.length ≤ 16
  tot : totR s.l ≤ 1073741824
  keys : (s.l.map RF.out).Pairwise (fun x y => x.1 ≠ y.1)
  fuse : -1 ≤ s.fuse ∧ s.fuse ≤ 9223372036854775807
  room : s.room ≤ 1073741824
theorem RkG.of_sim {d : AD} {s : RkS} (h : Sim d s.abs) (hG : d.Good) : RkG s := by
  have h1 := h.len
  have h2 := h.tot
  have h3 := hG.len
  have h4 := hG.tot
  have h5 := hG.room.2
  have h6 : totD s.abs.l = totR s.l := totD_out s.l
  have h7 : s.abs.l.length = s.l.length := by simp [RkS.abs]
  have h8 : s.fuse = d.fuse := h.fuse
  have h9 : s.room = d.room := h.room
  exact ⟨by omega, by omega, sorted_keys h.sorted, by rw [h8]; exact hG.fuse, by omega⟩
theorem RkG.small {s : RkS} (h : RkG s) : ∀ f ∈ s.l, f.S.length + f.T.length ≤ 1073741824 := fun f hf => by
  have h1 := h.tot
  unfold totR at h1
  have h2 : f.S.length + f.T.length ∈ s.l.map (fun f => f.S.length + f.T.length) := List.mem_map.2 ⟨f, hf, rfl⟩
  have h3 : ∀ (l : List Nat) (x : Nat), x ∈ l → x ≤ l.sum := fun l => by
    induction l with
    | nil => intro x hx; cases hx
    | cons a r ih =>
      intro x hx
      rw [List.sum_cons]
      rcases List.mem_cons.1 hx with rfl | hx
      · omega
      · have := ih x hx; omega
  have := h3 _ _ h2
  omega
theorem readR_eq {s : RkS} (h : RkG s) (n : SKey) : readR s n = readD n s.abs := by
  unfold readR readD
  rw [show s.abs.down = s.down from rfl, show s.abs.l = s.l.map RF.out from rfl]
  split
  · rfl
  · rcases atR_is s.l n with hat | ⟨k, f, hk, hget, hnm⟩
    · rw [if_pos hat, abs_noR hat]
    · rw [if_neg (by omega), hk, Int.toNat_natCast, hget, (abs_atR h.keys hget hnm (f.S, f.T) (y := f) (by unfold RF.out; rw [hnm])).1]
theorem RPost.ofRemove {w w' : World} {q : Nat} {s : RkS} {n : SKey} (hk : (s.l.map RF.out).Pairwise (fun x y => x.1 ≠ y.1)) (h : RkPost w q s.deed (removeR s n).1 (fun _ => False) w') : RPost w q s (deedD (removeD n) s.abs) (removeR s n).2 w' := by
  obtain ⟨v', h1, h2, h3⟩ := h
  have hl : s.deed.abs.l = s.l.map RF.out := by rw [← deed_l s]; rfl
  have he : deedD (removeD n) s.abs = ({ s.deed.abs with l := (removeR s n).1.map RF.out }, (removeR s n).2) := by
    unfold removeR
    cases hd : s.dead with
    | true =>
      rw [deedD_dead hd, if_pos rfl]
      simp only
      rw [← hl]
    | false =>
      rw [deedD_live hd, if_neg (by simp)]
      unfold removeD
      rcases atR_is s.l n with hat | ⟨k, f, hk2, hget, hnm⟩
      · rw [if_pos hat, hl, abs_noR hat]
        simp only
        rw [← hl]
      · rw [if_neg (by omega), hl, (abs_atR hk hget hnm (f.S, f.T) (y := f) (by unfold RF.out; rw [hnm])).1]
        simp only
        rw [dropR_out]
  rw [he]
  refine ⟨rfl, _, h1, rfl, fun g hg => ?_, h3.mono (fun g _ e => Or.inl e)⟩
  rcases h2 g hg with h4 | h4 | h4
  · exact Or.inl ((deed_blk s q g).1 h4)
  · exact Or.inr h4
  · exact absurd h4 (fun h => h)
theorem RPost.boxed {w w3 w' : World} {q : Nat} {s : RkS} {r : RD × Int} {x : Int} (hE : Ext w w3) (h : RPost w3 q s r x w') : RPost w q s r x w' := by
  obtain ⟨hx, s', hD, ha, hb, hk⟩ := h
  exact ⟨hx, s', hD, ha, fun g hg => (hb g hg).imp id (fun h1 => Nat.le_trans hE.size h1), (hE.keeps (S := s.Blk q)).trans hk (fun _ _ h => h)⟩
def WantPost (w : World) (q : Nat) (s : RkS) (r : RD × (List UInt8 × Int)) (e : Ending) (w' : World) : Prop := ∃ v, e = .returned (.tuple #[v, .int .i64 r.2.2]) ∧ OwnB w' v r.2.1 ∧ (∀ g, v.ownBlock = some g → w.heap.size ≤ g) ∧ ∃ s', Rk w' q s' ∧ s'.abs = r.1 ∧ (∀ g, s'.Blk q g → s.Blk q g ∨ w.heap.size ≤ g) ∧ Keeps (s.Blk q) w w'
theorem WantPost.mk {w w' : World} {q : Nat} {s s' : RkS} {r : RD × (List UInt8 × Int)} {x : Int} (hx : x = r.2.2) (hr : r.2.1 = []) (h : Rk w' q s') (ha : s'.abs = r.1) (hb : ∀ g, s'.Blk q g → s.Blk q g ∨ w.heap.size ≤ g) (hk : Keeps (s.Blk q) w w') : WantPost w q s r (.returned (.tuple #[.slice none 0 0, .int .i64 x])) w' :=
  ⟨_, by rw [hx], by rw [hr]; exact OwnB.nil _, fun g hg => (by cases hg), s', h, ha, hb, hk⟩
theorem WantPost.of {w w3 w' : World} {q : Nat} {s : RkS} {r : RD × Int} {x : Int} (hE : Ext w w3) (h : RPost w3 q s r x w') {z : RD × (List UInt8 × Int)} (hz : z = (r.1, ([], r.2))) : WantPost w q s z (.returned (.tuple #[.slice none 0 0, .int .i64 x])) w' := by
  obtain ⟨hx, s', h1, h2, h4, h5⟩ := h.boxed hE
  subst hz
  exact WantPost.mk hx rfl h1 h2 h4 h5
set_option maxRecDepth 100000 in
set_option maxHeartbeats 3200000 in
theorem want_0 (w : World) (q : Nat) (s : RkS) (act : Int) (A B : SKey) (aP : Option Addr) (gP oP cP : Nat) (P : List UInt8) (n : Int) (aK : Option Addr) (gK oK cK : Nat) (K : List Int) (hD : Rk w q s) (hG : RkG s) (hO : OkD w ⟨act, A, B, aP, gP, oP, cP, P, n, aK, gK, oK, cK, K⟩) (hgP : P ≠ [] → ¬ s.Blk q gP) (hgK : K ≠ [] → ¬ s.Blk q gK) (hPl : P.length ≤ 1073741824) (hKl : K.length ≤ 1073741824) (hact : act = 0) :
    Calls Try.prog 26 #[.pointer (some ⟨q, 0, none⟩), .agg #[.int .i64 act, .string A.1, .string B.1, .slice aP P.length cP, .int .i64 n, .slice aK K.length cK]] w (WantPost w q s (wantD ⟨act, A, B, aP, gP, oP, cP, P, n, aK, gK, oK, cK, K⟩ s.abs)) := by
  have hE : Ext w (w.alloc (.cells #[.int .i64 act, .string A.1, .string B.1, .slice aP P.length cP, .int .i64 n, .slice aK K.length cK] 46)) := (Ext.refl w).alloc _
  obtain ⟨hP, hPc, hPm, hK, hKc, hKm, hKn, hn⟩ := hO
  simp only at hP hPc hPm hK hKc hKm hKn hn
  have hl : s.l.length ≤ 1000 := by have := hG.len; omega
  have hs := hG.small
  have hd := hG.keys
  obtain ⟨hf1, hf2⟩ := hG.fuse
  subst hact
  have HC := hid (RefAppend12_any _ q s A aP gP oP cP P (hD.ext hE) hl hs hd hf1 hf2 hG.tot hG.room (hP.below hE.below) hPl hgP)
  have HE := hid hE
  have HD := hid hD
  clear hP hPc hPm hK hKc hKm hKn hn hE hD hgP hgK hG hl hs hd hf1 hf2
  go_enter Try.func26, Try.ntmps26
  go_wp2_with fail
  refine HC.out.mono ?_
  rintro e w2 ⟨r, rfl, hpost⟩
  have HP := hid hpost
  clear hpost
  go_wp2
  go_ret2
  exact WantPost.of HE.out HP.out rfl
set_option maxRecDepth 100000 in
set_option maxHeartbeats 3200000 in
theorem want_1 (w : World) (q : Nat) (s : RkS) (act : Int) (A B : SKey) (aP : Option Addr) (gP oP cP : Nat) (P : List UInt8) (n : Int) (aK : Option Addr) (gK oK cK : Nat) (K : List Int) (hD : Rk w q s) (hG : RkG s) (hO : OkD w ⟨act, A, B, aP, gP, oP, cP, P, n, aK, gK, oK, cK, K⟩) (hgP : P ≠ [] → ¬ s.Blk q gP) (hgK : K ≠ [] → ¬ s.Blk q gK) (hPl : P.length ≤ 1073741824) (hKl : K.length ≤ 1073741824) (hact : act = 1) :
    Calls Try.prog 26 #[.pointer (some ⟨q, 0, none⟩), .agg #[.int .i64 act, .string A.1, .string B.1, .slice aP P.length cP, .int .i64 n, .slice aK K.length cK]] w (WantPost w q s (wantD ⟨act, A, B, aP, gP, oP, cP, P, n, aK, gK, oK, cK, K⟩ s.abs)) := by
  have hE : Ext w (w.alloc (.cells #[.int .i64 act, .string A.1, .string B.1, .slice aP P.length cP, .int .i64 n, .slice aK K.length cK] 46)) := (Ext.refl w).alloc _
  obtain ⟨hP, hPc, hPm, hK, hKc, hKm, hKn, hn⟩ := hO
  simp only at hP hPc hPm hK hKc hKm hKn hn
  have hl : s.l.length ≤ 1000 := by have := hG.len; omega
  have hs := hG.small
  have hd := hG.keys
  obtain ⟨hf1, hf2⟩ := hG.fuse
  subst hact
  have HC := hid (RefSync12_any _ q s A (hD.ext hE) hl hs hd hf1 hf2)
  have HE := hid hE
  have HD := hid hD
  clear hP hPc hPm hK hKc hKm hKn hn hE hD hgP hgK hG hl hs hd hf1 hf2
  go_enter Try.func26, Try.ntmps26
  go_wp2_with fail
  refine HC.out.mono ?_
  rintro e w2 ⟨r, rfl, hpost⟩
  have HP := hid hpost
  clear hpost
  go_wp2
  go_ret2
  exact WantPost.of HE.out HP.out rfl
set_option maxRecDepth 100000 in
set_option maxHeartbeats 3200000 in
theorem want_2 (w : World) (q : Nat) (s : RkS) (act : Int) (A B : SKey) (aP : Option Addr) (gP oP cP : Nat) (P : List UInt8) (n : Int) (aK : Option Addr) (gK oK cK : Nat) (K : List Int) (hD : Rk w q s) (hG : RkG s) (hO : OkD w ⟨act, A, B, aP, gP, oP, cP, P, n, aK, gK, oK, cK, K⟩) (hgP : P ≠ [] → ¬ s.Blk q gP) (hgK : K ≠ [] → ¬ s.Blk q gK) (hPl : P.length ≤ 1073741824) (hKl : K.length ≤ 1073741824) (hact : act = 2) :
    Calls Try.prog 26 #[.pointer (some ⟨q, 0, none⟩), .agg #[.int .i64 act, .string A.1, .string B.1, .slice aP P.length cP, .int .i64 n, .slice aK K.length cK]] w (WantPost w q s (wantD ⟨act, A, B, aP, gP, oP, cP, P, n, aK, gK, oK, cK, K⟩ s.abs)) := by
  have hE : Ext w (w.alloc (.cells #[.int .i64 act, .string A.1, .string B.1, .slice aP P.length cP, .int .i64 n, .slice aK K.length cK] 46)) := (Ext.refl w).alloc _
  obtain ⟨hP, hPc, hPm, hK, hKc, hKm, hKn, hn⟩ := hO
  simp only at hP hPc hPm hK hKc hKm hKn hn
  have hl : s.l.length ≤ 1000 := by have := hG.len; omega
  have hs := hG.small
  have hd := hG.keys
  obtain ⟨hf1, hf2⟩ := hG.fuse
  subst hact
  have HC := hid (RefMove12_any _ q s A B (hD.ext hE) hl hs hd hf1 hf2)
  have HE := hid hE
  have HD := hid hD
  clear hP hPc hPm hK hKc hKm hKn hn hE hD hgP hgK hG hl hs hd hf1 hf2
  go_enter Try.func26, Try.ntmps26
  go_wp2_with fail
  refine HC.out.mono ?_
  rintro e w2 ⟨r, rfl, hpost⟩
  have HP := hid hpost
  clear hpost
  go_wp2
  go_ret2
  exact WantPost.of HE.out HP.out rfl
set_option maxRecDepth 100000 in
set_option maxHeartbeats 3200000 in
theorem want_3 (w : World) (q : Nat) (s : RkS) (act : Int) (A B : SKey) (aP : Option Addr) (gP oP cP : Nat) (P : List UInt8) (n : Int) (aK : Option Addr) (gK oK cK : Nat) (K : List Int) (hD : Rk w q s) (hG : RkG s) (hO : OkD w ⟨act, A, B, aP, gP, oP, cP, P, n, aK, gK, oK, cK, K⟩) (hgP : P ≠ [] → ¬ s.Blk q gP) (hgK : K ≠ [] → ¬ s.Blk q gK) (hPl : P.length ≤ 1073741824) (hKl : K.length ≤ 1073741824) (hact : act = 3) :
    Calls Try.prog 26 #[.pointer (some ⟨q, 0, none⟩), .agg #[.int .i64 act, .string A.1, .string B.1, .slice aP P.length cP, .int .i64 n, .slice aK K.length cK]] w (WantPost w q s (wantD ⟨act, A, B, aP, gP, oP, cP, P, n, aK, gK, oK, cK, K⟩ s.abs)) := by
  have hE : Ext w (w.alloc (.cells #[.int .i64 act, .string A.1, .string B.1, .slice aP P.length cP, .int .i64 n, .slice aK K.length cK] 46)) := (Ext.refl w).alloc _
  obtain ⟨hP, hPc, hPm, hK, hKc, hKm, hKn, hn⟩ := hO
  simp only at hP hPc hPm hK hKc hKm hKn hn
  have hl : s.l.length ≤ 1000 := by have := hG.len; omega
  have hs := hG.small
  have hd := hG.keys
  obtain ⟨hf1, hf2⟩ := hG.fuse
  subst hact
  have HC := hid (RefRemove12_any _ q s A (hD.ext hE) hl hf1 hf2)
  have HKY := hid hd
  have HE := hid hE
  have HD := hid hD
  clear hP hPc hPm hK hKc hKm hKn hn hE hD hgP hgK hG hl hs hd hf1 hf2
  go_enter Try.func26, Try.ntmps26
  go_wp2_with fail
  refine HC.out.mono ?_
  rintro e w2 ⟨rfl, hpost⟩
  have HP := hid (RPost.ofRemove HKY.out hpost)
  clear hpost
  generalize (removeR s A).2 = r at *
  go_wp2
  go_ret2
  exact WantPost.of HE.out HP.out rfl
set_option maxRecDepth 100000 in
set_option maxHeartbeats 3200000 in
theorem want_4 (w : World) (q : Nat) (s : RkS) (act : Int) (A B : SKey) (aP : Option Addr) (gP oP cP : Nat) (P : List UInt8) (n : Int) (aK : Option Addr) (gK oK cK : Nat) (K : List Int) (hD : Rk w q s) (hG : RkG s) (hO : OkD w ⟨act, A, B, aP, gP, oP, cP, P, n, aK, gK, oK, cK, K⟩) (hgP : P ≠ [] → ¬ s.Blk q gP) (hgK : K ≠ [] → ¬ s.Blk q gK) (hPl : P.length ≤ 1073741824) (hKl : K.length ≤ 1073741824) (hact : act = 4) :
    Calls Try.prog 26 #[.pointer (some ⟨q, 0, none⟩), .agg #[.int .i64 act, .string A.1, .string B.1, .slice aP P.length cP, .int .i64 n, .slice aK K.length cK]] w (WantPost w q s (wantD ⟨act, A, B, aP, gP, oP, cP, P, n, aK, gK, oK, cK, K⟩ s.abs)) := by
  have hE : Ext w (w.alloc (.cells #[.int .i64 act, .string A.1, .string B.1, .slice aP P.length cP, .int .i64 n, .slice aK K.length cK] 46)) := (Ext.refl w).alloc _
  obtain ⟨hP, hPc, hPm, hK, hKc, hKm, hKn, hn⟩ := hO
  simp only at hP hPc hPm hK hKc hKm hKn hn
  have hl : s.l.length ≤ 1000 := by have := hG.len; omega
  have hs := hG.small
  have hd := hG.keys
  obtain ⟨hf1, hf2⟩ := hG.fuse
  subst hact
  have HC := hid (RefRead12_any _ q s A (hD.ext hE) hl hs)
  rw [readR_eq hG] at HC
  have HE := hid hE
  have HD := hid hD
  clear hP hPc hPm hK hKc hKm hKn hn hE hD hgP hgK hG hl hs hd hf1 hf2
  go_enter Try.func26, Try.ntmps26
  go_wp2_with fail
  refine HC.out.mono ?_
  rintro e w2 ⟨v, rfl, ho, hf, hb⟩
  have hr : wantD ⟨4, A, B, aP, gP, oP, cP, P, n, aK, gK, oK, cK, K⟩ s.abs = (s.abs, readD A s.abs) := rfl
  have HO := hid ho
  have HF := hid hf
  have HB := hid (below_trans' HE.out.below hb)
  obtain ⟨z, hz⟩ : ∃ z, z = readD A s.abs := ⟨_, rfl⟩
  rw [← hz] at HO
  rw [← hz]
  have HR := hid (hr.trans (by rw [← hz]))
  clear ho hf hb hr hz
  obtain ⟨qb, qi⟩ := z
  simp only at HO
  simp only
  go_wp2
  go_ret2
  rw [HR.out]
  exact ⟨v, rfl, HO.out, fun g hg => Nat.le_trans (by simp) (HF.out g hg), s, HD.out.below HB.out, rfl, fun g hg => Or.inl hg, below_keeps HB.out⟩
set_option maxRecDepth 100000 in
set_option maxHeartbeats 3200000 in
theorem want_5 (w : World) (q : Nat) (s : RkS) (act : Int) (A B : SKey) (aP : Option Addr) (gP oP cP : Nat) (P : List UInt8) (n : Int) (aK : Option Addr) (gK oK cK : Nat) (K : List Int) (hD : Rk w q s) (hG : RkG s) (hO : OkD w ⟨act, A, B, aP, gP, oP, cP, P, n, aK, gK, oK, cK, K⟩) (hgP : P ≠ [] → ¬ s.Blk q gP) (hgK : K ≠ [] → ¬ s.Blk q gK) (hPl : P.length ≤ 1073741824) (hKl : K.length ≤ 1073741824) (hact : act = 5) :
    Calls Try.prog 26 #[.pointer (some ⟨q, 0, none⟩), .agg #[.int .i64 act, .string A.1, .string B.1, .slice aP P.length cP, .int .i64 n, .slice aK K.length cK]] w (WantPost w q s (wantD ⟨act, A, B, aP, gP, oP, cP, P, n, aK, gK, oK, cK, K⟩ s.abs)) := by
  have hE : Ext w (w.alloc (.cells #[.int .i64 act, .string A.1, .string B.1, .slice aP P.length cP, .int .i64 n, .slice aK K.length cK] 46)) := (Ext.refl w).alloc _
  obtain ⟨hP, hPc, hPm, hK, hKc, hKm, hKn, hn⟩ := hO
  simp only at hP hPc hPm hK hKc hKm hKn hn
  have hl : s.l.length ≤ 1000 := by have := hG.len; omega
  have hs := hG.small
  have hd := hG.keys
  obtain ⟨hf1, hf2⟩ := hG.fuse
  subst hact
  have HE := hid hE
  have HD := hid hD
  have HX := hid (hD.ext hE)
  obtain ⟨c0, c1, c2, c3⟩ := HX.out.cells
  have z2 := HX.out.free 2
  clear hP hPc hPm hK hKc hKm hKn hn hE hD hgP hgK hG hl hs hd hf1 hf2
  go_enter Try.func26, Try.ntmps26
  have HK := hid ((HE.out.keeps (S := s.Blk q)).setCell (p := ⟨q, 2, none⟩) (fun _ => Or.inl rfl) (.int .i64 (max n (-1))))
  have HD2 := hid (HX.out.setFuse (max n (-1)))
  go_wp2
  go_ret2
  exact WantPost.mk rfl rfl HD2.out rfl (fun g hg => Or.inl hg) HK.out
set_option maxRecDepth 100000 in
set_option maxHeartbeats 3200000 in
theorem want_6 (w : World) (q : Nat) (s : RkS) (act : Int) (A B : SKey) (aP : Option Addr) (gP oP cP : Nat) (P : List UInt8) (n : Int) (aK : Option Addr) (gK oK cK : Nat) (K : List Int) (hD : Rk w q s) (hG : RkG s) (hO : OkD w ⟨act, A, B, aP, gP, oP, cP, P, n, aK, gK, oK, cK, K⟩) (hgP : P ≠ [] → ¬ s.Blk q gP) (hgK : K ≠ [] → ¬ s.Blk q gK) (hPl : P.length ≤ 1073741824) (hKl : K.length ≤ 1073741824) (hact : act = 6) :
    Calls Try.prog 26 #[.pointer (some ⟨q, 0, none⟩), .agg #[.int .i64 act, .string A.1, .string B.1, .slice aP P.length cP, .int .i64 n, .slice aK K.length cK]] w (WantPost w q s (wantD ⟨act, A, B, aP, gP, oP, cP, P, n, aK, gK, oK, cK, K⟩ s.abs)) := by
  have hE : Ext w (w.alloc (.cells #[.int .i64 act, .string A.1, .string B.1, .slice aP P.length cP, .int .i64 n, .slice aK K.length cK] 46)) := (Ext.refl w).alloc _
  obtain ⟨hP, hPc, hPm, hK, hKc, hKm, hKn, hn⟩ := hO
  simp only at hP hPc hPm hK hKc hKm hKn hn
  have hl : s.l.length ≤ 1000 := by have := hG.len; omega
  have hs := hG.small
  have hd := hG.keys
  obtain ⟨hf1, hf2⟩ := hG.fuse
  subst hact
  have HC := hid (RefBoot12_any _ q s aK gK oK cK K (hD.ext hE) hl hs (hK.below hE.below) hKl hgK)
  have HE := hid hE
  have HD := hid hD
  clear hP hPc hPm hK hKc hKm hKn hn hE hD hgP hgK hG hl hs hd hf1 hf2
  go_enter Try.func26, Try.ntmps26
  go_wp2_with fail
  refine HC.out.mono ?_
  rintro e w2 ⟨rfl, s', hd, ha, hb, hk⟩
  have HK := hid ((HE.out.keeps (S := s.Blk q)).trans hk (fun g _ hg => hg))
  have HD2 := hid hd
  have HA := hid ha
  have HB := hid (fun g (hg : s'.Blk q g) => show s.Blk q g ∨ w.heap.size ≤ g from (hb g hg).imp id (fun h => Nat.le_trans HE.out.size h))
  clear hd hk ha hb
  go_wp2
  go_ret2
  exact WantPost.mk rfl rfl HD2.out HA.out HB.out HK.out
set_option maxRecDepth 100000 in
set_option maxHeartbeats 3200000 in
theorem want_7 (w : World) (q : Nat) (s : RkS) (act : Int) (A B : SKey) (aP : Option Addr) (gP oP cP : Nat) (P : List UInt8) (n : Int) (aK : Option Addr) (gK oK cK : Nat) (K : List Int) (hD : Rk w q s) (hG : RkG s) (hO : OkD w ⟨act, A, B, aP, gP, oP, cP, P, n, aK, gK, oK, cK, K⟩) (hgP : P ≠ [] → ¬ s.Blk q gP) (hgK : K ≠ [] → ¬ s.Blk q gK) (hPl : P.length ≤ 1073741824) (hKl : K.length ≤ 1073741824) (hact : act = 7) :
    Calls Try.prog 26 #[.pointer (some ⟨q, 0, none⟩), .agg #[.int .i64 act, .string A.1, .string B.1, .slice aP P.length cP, .int .i64 n, .slice aK K.length cK]] w (WantPost w q s (wantD ⟨act, A, B, aP, gP, oP, cP, P, n, aK, gK, oK, cK, K⟩ s.abs)) := by
  have hE : Ext w (w.alloc (.cells #[.int .i64 act, .string A.1, .string B.1, .slice aP P.length cP, .int .i64 n, .slice aK K.length cK] 46)) := (Ext.refl w).alloc _
  obtain ⟨hP, hPc, hPm, hK, hKc, hKm, hKn, hn⟩ := hO
  simp only at hP hPc hPm hK hKc hKm hKn hn
  have hl : s.l.length ≤ 1000 := by have := hG.len; omega
  have hs := hG.small
  have hd := hG.keys
  obtain ⟨hf1, hf2⟩ := hG.fuse
  subst hact
  have HC := hid (RefCut12_any _ q s A n (hD.ext hE) hl hs hd hf1 hf2)
  have HE := hid hE
  have HD := hid hD
  clear hP hPc hPm hK hKc hKm hKn hn hE hD hgP hgK hG hl hs hd hf1 hf2
  go_enter Try.func26, Try.ntmps26
  go_wp2_with fail
  refine HC.out.mono ?_
  rintro e w2 ⟨r, rfl, hpost⟩
  have HP := hid hpost
  clear hpost
  go_wp2
  go_ret2
  exact WantPost.of HE.out HP.out rfl
set_option maxRecDepth 100000 in
set_option maxHeartbeats 3200000 in
theorem want_8 (w : World) (q : Nat) (s : RkS) (act : Int) (A B : SKey) (aP : Option Addr) (gP oP cP : Nat) (P : List UInt8) (n : Int) (aK : Option Addr) (gK oK cK : Nat) (K : List Int) (hD : Rk w q s) (hG : RkG s) (hO : OkD w ⟨act, A, B, aP, gP, oP, cP, P, n, aK, gK, oK, cK, K⟩) (hgP : P ≠ [] → ¬ s.Blk q gP) (hgK : K ≠ [] → ¬ s.Blk q gK) (hPl : P.length ≤ 1073741824) (hKl : K.length ≤ 1073741824) (z0 : act ≠ 0) (z1 : act ≠ 1) (z2 : act ≠ 2) (z3 : act ≠ 3) (z4 : act ≠ 4) (z5 : act ≠ 5) (z6 : act ≠ 6) (z7 : act ≠ 7) :
    Calls Try.prog 26 #[.pointer (some ⟨q, 0, none⟩), .agg #[.int .i64 act, .string A.1, .string B.1, .slice aP P.length cP, .int .i64 n, .slice aK K.length cK]] w (WantPost w q s (wantD ⟨act, A, B, aP, gP, oP, cP, P, n, aK, gK, oK, cK, K⟩ s.abs)) := by
  have hE : Ext w (w.alloc (.cells #[.int .i64 act, .string A.1, .string B.1, .slice aP P.length cP, .int .i64 n, .slice aK K.length cK] 46)) := (Ext.refl w).alloc _
  obtain ⟨hP, hPc, hPm, hK, hKc, hKm, hKn, hn⟩ := hO
  simp only at hP hPc hPm hK hKc hKm hKn hn
  have hl : s.l.length ≤ 1000 := by have := hG.len; omega
  have hs := hG.small
  have hd := hG.keys
  obtain ⟨hf1, hf2⟩ := hG.fuse
  have HE := hid hE
  have HD := hid hD
  have y0 : (act == 0) = false := by simpa using z0
  have y1 : (act == 1) = false := by simpa using z1
  have y2 : (act == 2) = false := by simpa using z2
  have y3 : (act == 3) = false := by simpa using z3
  have y4 : (act == 4) = false := by simpa using z4
  have y5 : (act == 5) = false := by simpa using z5
  have y6 : (act == 6) = false := by simpa using z6
  have y7 : (act == 7) = false := by simpa using z7
  have HR : Hid (wantD ⟨act, A, B, aP, gP, oP, cP, P, n, aK, gK, oK, cK, K⟩ s.abs = (s.abs, ([], 0))) := by
    show wantD _ _ = _
    unfold wantD
    simp only [z0, z1, z2, z3, z4, z5, z6, z7, if_false]
  clear hP hPc hPm hK hKc hKm hKn hn hE hD hgP hgK hG hl hs hd hf1 hf2
  go_enter Try.func26, Try.ntmps26
  go_wp2
  go_ret2
  rw [HR.out]
  exact WantPost.mk rfl rfl (HD.out.ext HE.out) rfl (fun g hg => Or.inl hg) HE.out.keeps
theorem want_any (w : World) (q : Nat) (s : RkS) (x : DAct) (hD : Rk w q s) (hG : RkG s) (hO : OkD w x) (hgP : x.P ≠ [] → ¬ s.Blk q x.gP) (hgK : x.K ≠ [] → ¬ s.Blk q x.gK) (hPl : x.P.length ≤ 1073741824) (hKl : x.K.length ≤ 1073741824) :
    Calls Try.prog 26 #[.pointer (some ⟨q, 0, none⟩), .agg #[.int .i64 x.act, .string x.A.1, .string x.B.1, .slice x.aP x.P.length x.cP, .int .i64 x.n, .slice x.aK x.K.length x.cK]] w (WantPost w q s (wantD x s.abs)) := by
  obtain ⟨act, A, B, aP, gP, oP, cP, P, n, aK, gK, oK, cK, K⟩ := x
  by_cases z0 : act = 0
  · exact want_0 w q s act A B aP gP oP cP P n aK gK oK cK K hD hG hO hgP hgK hPl hKl z0
  by_cases z1 : act = 1
  · exact want_1 w q s act A B aP gP oP cP P n aK gK oK cK K hD hG hO hgP hgK hPl hKl z1
  by_cases z2 : act = 2
  · exact want_2 w q s act A B aP gP oP cP P n aK gK oK cK K hD hG hO hgP hgK hPl hKl z2
  by_cases z3 : act = 3
  · exact want_3 w q s act A B aP gP oP cP P n aK gK oK cK K hD hG hO hgP hgK hPl hKl z3
  by_cases z4 : act = 4
  · exact want_4 w q s act A B aP gP oP cP P n aK gK oK cK K hD hG hO hgP hgK hPl hKl z4
  by_cases z5 : act = 5
  · exact want_5 w q s act A B aP gP oP cP P n aK gK oK cK K hD hG hO hgP hgK hPl hKl z5
  by_cases z6 : act = 6
  · exact want_6 w q s act A B aP gP oP cP P n aK gK oK cK K hD hG hO hgP hgK hPl hKl z6
  by_cases z7 : act = 7
  · exact want_7 w q s act A B aP gP oP cP P n aK gK oK cK K hD hG hO hgP hgK hPl hKl z7
  exact want_8 w q s act A B aP gP oP cP P n aK gK oK cK K hD hG hO hgP hgK hPl hKl z0 z1 z2 z3 z4 z5 z6 z7
end Go.Proofs.Ytopabknlgmihpaa
