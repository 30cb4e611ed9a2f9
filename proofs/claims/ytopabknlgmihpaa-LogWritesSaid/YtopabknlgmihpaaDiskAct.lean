/- Acts on a disk: great, do. -/
import Derived.Test.YtopabknlgmihpaaDiskLaw
namespace Go.Proofs.Ytopabknlgmihpaa
open Go Go.RowKit Go.MapKept Go.ChangeMaps Go.Maps

/-- What is done with a disk, with the places of its slices. -/
structure DAct where
  act : Int
  A : SKey
  B : SKey
  aP : Option Addr
  gP : Nat
  oP : Nat
  cP : Nat
  P : List UInt8
  n : Int
  aK : Option Addr
  gK : Nat
  oK : Nat
  cK : Nat
  K : List Int
def encD (x : DAct) : List Value := [.int .i64 x.act, .string x.A.1, .string x.B.1, .slice x.aP x.P.length x.cP, .int .i64 x.n, .slice x.aK x.K.length x.cK]
theorem encD_len (x : DAct) : (encD x).length = 6 := rfl
theorem sizeD : ∀ W, (sizeOf 46).run Try.prog W = .ok 6 W := fun W => by kernel_rfl
/-- What an act's slices point at. -/
structure OkD (w : World) (x : DAct) : Prop where
  p : RdS encB 1 w x.aP x.gP x.oP x.P
  pc : x.P.length ≤ x.cP
  pm : x.cP ≤ maxLen
  k : RdS encI 1 w x.aK x.gK x.oK x.K
  kc : x.K.length ≤ x.cK
  km : x.cK ≤ maxLen
  kn : x.aK = none → x.cK = 0
  hn : I64 x.n
theorem OkD.below {w w' : World} {x : DAct} (h : OkD w x) (hb : Below w.heap.size w w') : OkD w' x := ⟨h.p.below hb, h.pc, h.pm, h.k.below hb, h.kc, h.km, h.kn, h.hn⟩
theorem RdD {w : World} {a : Option Addr} {g off : Nat} {l : List DAct} (h : RdS encD 6 w a g off l) {k : Nat} {x : DAct} (hk : l[k]? = some x) : w.cell? ⟨g, off + k * 6, none⟩ = some (.int .i64 x.act) ∧ w.cell? ⟨g, off + k * 6 + 1, none⟩ = some (.string x.A.1) ∧ w.cell? ⟨g, off + k * 6 + 2, none⟩ = some (.string x.B.1) ∧ w.cell? ⟨g, off + k * 6 + 3, none⟩ = some (.slice x.aP x.P.length x.cP) ∧ w.cell? ⟨g, off + k * 6 + 4, none⟩ = some (.int .i64 x.n) ∧ w.cell? ⟨g, off + k * 6 + 5, none⟩ = some (.slice x.aK x.K.length x.cK) :=
  ⟨h.cells k x hk 0 _ rfl, h.cells k x hk 1 _ rfl, h.cells k x hk 2 _ rfl, h.cells k x hk 3 _ rfl, h.cells k x hk 4 _ rfl, h.cells k x hk 5 _ rfl⟩
def greatA (x : DAct) : Bool := decide (100 < x.P.length) || decide (50 < x.K.length)
def greatD (l : List DAct) : Bool := (l.take 60).any greatA || decide (60 < l.length)
/-- An act, on what a disk tells. -/
def actA (x : DAct) (d : AD) : AD × (List UInt8 × Int) :=
  if x.act = 0 then ((deedA (appendA x.A x.P) d).1, ([], (deedA (appendA x.A x.P) d).2))
  else if x.act = 1 then ((deedA (syncA x.A) d).1, ([], (deedA (syncA x.A) d).2))
  else if x.act = 2 then ((deedA (moveA x.A x.B) d).1, ([], (deedA (moveA x.A x.B) d).2))
  else if x.act = 3 then ((deedA (removeA x.A) d).1, ([], (deedA (removeA x.A) d).2))
  else if x.act = 4 then (d, readA x.A d)
  else if x.act = 5 then ({ d with fuse := max x.n (-1) }, ([], 0))
  else if x.act = 6 then (bootA x.K d, ([], 0))
  else if x.act = 7 then ((deedA (cutA x.A x.n) d).1, ([], (deedA (cutA x.A x.n) d).2))
  else (d, ([], 0))
theorem actA_good {d : AD} (x : DAct) (hn : I64 x.n) (h : d.Good) : (actA x d).1.Good := by
  unfold actA
  split
  · exact h.deed (fun e he => he.append _ _)
  split
  · exact h.deed (fun e he => he.sync _)
  split
  · exact h.deed (fun e he => he.move _ _)
  split
  · exact h.deed (fun e he => he.remove _)
  split
  · exact h
  split
  · unfold I64 at hn
    exact ⟨h.keys, h.sure, h.len, h.tot, h.room, by simp only; omega⟩
  split
  · exact h.boot _
  split
  · exact h.deed (fun e he => he.cut _ _)
  · exact h
def DoPost (w : World) (p : Nat) (s : DkS) (r : AD × (List UInt8 × Int)) (e : Ending) (w' : World) : Prop := ∃ v, e = .returned (.tuple #[v, .int .i64 r.2.2]) ∧ OwnB w' v r.2.1 ∧ (∀ g, v.ownBlock = some g → w.heap.size ≤ g) ∧ ∃ s', Dk w' p s' ∧ s'.abs = r.1 ∧ (∀ g, s'.Blk p g → s.Blk p g ∨ w.heap.size ≤ g) ∧ Keeps (s.Blk p) w w'
theorem DoPost.mk {w w' : World} {p : Nat} {s s' : DkS} {r : AD × (List UInt8 × Int)} {x : Int} (hx : x = r.2.2) (hr : r.2.1 = []) (h : Dk w' p s') (ha : s'.abs = r.1) (hb : ∀ g, s'.Blk p g → s.Blk p g ∨ w.heap.size ≤ g) (hk : Keeps (s.Blk p) w w') : DoPost w p s r (.returned (.tuple #[.slice none 0 0, .int .i64 x])) w' :=
  ⟨_, by rw [hx], by rw [hr]; exact OwnB.nil _, fun g hg => (by cases hg), s', h, ha, hb, hk⟩
theorem DoPost.dk {w w3 w' : World} {p : Nat} {s : DkS} {r : AD × Int} {x : Int} (hE : Ext w w3) (h : DkPost w3 p s r x w') {q : AD × (List UInt8 × Int)} (hq : q = (r.1, ([], r.2))) : DoPost w p s q (.returned (.tuple #[.slice none 0 0, .int .i64 x])) w' := by
  obtain ⟨s', h1, h2, h3, h4, h5⟩ := h.boxed hE
  subst hq
  exact DoPost.mk h3 rfl h1 h2 h4 h5
set_option maxRecDepth 100000 in
set_option maxHeartbeats 3200000 in
theorem greatD_any (w : World) (a : Option Addr) (g off cap : Nat) (l : List DAct) (h : RdS encD 6 w a g off l) (hl : l.length ≤ cap) (hcm : cap ≤ maxLen) :
    Calls Try.prog 22 #[.slice a l.length cap] w fun e w' => e = .returned (.bool (greatD l)) ∧ Ext w w' := by
  unfold maxLen at hcm
  go_enter Try.func22, Try.ntmps22
  go_wp2
  go_loopw [3] (fun s3 wr => ∃ k : Nat, k ≤ l.length ∧ k ≤ 60 ∧ s3 = .int .i64 k ∧ (∀ x ∈ l.take k, greatA x = false) ∧ Ext w wr) (fun s3 _ => 60 - (intOf s3).toNat)
  case atStart => exact ⟨0, Nat.zero_le _, Nat.zero_le _, rfl, fun x hx => by simp at hx, Ext.refl _⟩
  case round =>
    obtain ⟨k, hk, hk6, rfl, hno, hE⟩ := hrel
    by_cases hlt : k < l.length
    · by_cases h60 : k < 60
      · have hx := h.index (P := Try.prog) Try.underlying41 sizeD hlt cap
        have hget : l[k]? = some l[k] := by simp [hlt]
        obtain ⟨c0, c1, c2, c3, c4, c5⟩ := RdD (h.below hE.below) hget
        have htk : l.take (k + 1) = l.take k ++ [l[k]] := List.take_succ_eq_append_getElem hlt
        have hmem : l[k] ∈ l.take 60 := by
          rw [List.mem_take_iff_getElem]
          exact ⟨k, by omega, rfl⟩
        generalize l[k] = x at *
        have HE := hid hE
        have HNT : Hid (greatA x = true → greatD l = true) := fun hg => by
          unfold greatD
          rw [Bool.or_eq_true]
          exact Or.inl (List.any_eq_true.2 ⟨x, hmem, hg⟩)
        have HNF : Hid (greatA x = false → ∀ y ∈ l.take (k + 1), greatA y = false) := fun hg y hy => by
          rw [htk] at hy
          rcases List.mem_append.1 hy with hy | hy
          · exact hno y hy
          · rw [List.mem_singleton] at hy; subst hy; exact hg
        by_cases hp : 100 < x.P.length
        · have HN := hid (HNT.out (by unfold greatA; simp [hp]))
          clear hno hmem htk h hE
          go_wp2_with fail
          go_ret
          exact ⟨by rw [HN.out]; rfl, HE.out⟩
        · by_cases hkk : 50 < x.K.length
          · have HN := hid (HNT.out (by unfold greatA; simp [hkk]))
            clear hno hmem htk h hE
            go_wp2_with fail
            go_ret
            exact ⟨by rw [HN.out]; rfl, HE.out⟩
          · have HN := hid (HNF.out (by unfold greatA; simp [hp, hkk]))
            clear hno hmem htk h hE
            go_wp2_with fail
            go_roundw
            case rel => exact ⟨k + 1, by omega, by omega, by go_num, HN.out, HE.out⟩
            case measure => simp [intOf]; omega
      · have hk0 : k = 60 := by omega
        subst hk0
        have HN : Hid (greatD l = true) := by
          show greatD l = true
          unfold greatD
          rw [Bool.or_eq_true]
          exact Or.inr (by simpa using hlt)
        clear hno h
        go_wp2
        go_ret
        exact ⟨by rw [HN.out]; simp [hlt], hE⟩
    · have hk' : l.take 60 = l := List.take_of_length_le (by omega)
      have hk2 : l.take k = l := List.take_of_length_le (by omega)
      have HN : Hid (greatD l = false) := by
        show greatD l = false
        unfold greatD
        rw [hk', Bool.or_eq_false_iff]
        rw [hk2] at hno
        refine ⟨?_, by simp; omega⟩
        rw [List.any_eq_false]
        intro x hx
        rw [hno x hx]
        simp
      have hle : ¬ 60 < l.length := by omega
      clear hno h hk' hk2
      go_wp2
      go_ret
      exact ⟨by rw [HN.out]; simp [hle]; omega, hE⟩
set_option maxRecDepth 100000 in
set_option maxHeartbeats 3200000 in
theorem do_0 (w : World) (p : Nat) (s : DkS) (act : Int) (A B : SKey) (aP : Option Addr) (gP oP cP : Nat) (P : List UInt8) (n : Int) (aK : Option Addr) (gK oK cK : Nat) (K : List Int) (hD : Dk w p s) (hG : s.abs.Good) (hO : OkD w ⟨act, A, B, aP, gP, oP, cP, P, n, aK, gK, oK, cK, K⟩) (hgP : P ≠ [] → ¬ s.Blk p gP) (hgK : K ≠ [] → ¬ s.Blk p gK) (hPl : P.length ≤ 1073741824) (hact : act = 0) :
    Calls Try.prog 23 #[.pointer (some ⟨p, 0, none⟩), .agg #[.int .i64 act, .string A.1, .string B.1, .slice aP P.length cP, .int .i64 n, .slice aK K.length cK]] w (DoPost w p s (actA ⟨act, A, B, aP, gP, oP, cP, P, n, aK, gK, oK, cK, K⟩ s.abs)) := by
  have hE : Ext w (w.alloc (.cells #[.int .i64 act, .string A.1, .string B.1, .slice aP P.length cP, .int .i64 n, .slice aK K.length cK] 46)) := (Ext.refl w).alloc _
  obtain ⟨hP, hPc, hPm, hK, hKc, hKm, hKn, hn⟩ := hO
  simp only at hP hPc hPm hK hKc hKm hKn hn
  subst hact
  have HC := hid (DiskAppend_any _ p s A aP gP oP cP P (hD.ext hE) hG (hP.below hE.below) hPl hgP)
  have HE := hid hE
  have HD := hid hD
  clear hP hPc hPm hK hKc hKm hKn hn hE hD hgP hgK hG
  go_enter Try.func23, Try.ntmps23
  go_wp2_with fail
  refine HC.out.mono ?_
  rintro e w2 ⟨r, rfl, hpost⟩
  have HP := hid hpost
  clear hpost
  go_wp2
  go_ret2
  exact DoPost.dk HE.out HP.out rfl
set_option maxRecDepth 100000 in
set_option maxHeartbeats 3200000 in
theorem do_1 (w : World) (p : Nat) (s : DkS) (act : Int) (A B : SKey) (aP : Option Addr) (gP oP cP : Nat) (P : List UInt8) (n : Int) (aK : Option Addr) (gK oK cK : Nat) (K : List Int) (hD : Dk w p s) (hG : s.abs.Good) (hO : OkD w ⟨act, A, B, aP, gP, oP, cP, P, n, aK, gK, oK, cK, K⟩) (hgP : P ≠ [] → ¬ s.Blk p gP) (hgK : K ≠ [] → ¬ s.Blk p gK) (hPl : P.length ≤ 1073741824) (hact : act = 1) :
    Calls Try.prog 23 #[.pointer (some ⟨p, 0, none⟩), .agg #[.int .i64 act, .string A.1, .string B.1, .slice aP P.length cP, .int .i64 n, .slice aK K.length cK]] w (DoPost w p s (actA ⟨act, A, B, aP, gP, oP, cP, P, n, aK, gK, oK, cK, K⟩ s.abs)) := by
  have hE : Ext w (w.alloc (.cells #[.int .i64 act, .string A.1, .string B.1, .slice aP P.length cP, .int .i64 n, .slice aK K.length cK] 46)) := (Ext.refl w).alloc _
  obtain ⟨hP, hPc, hPm, hK, hKc, hKm, hKn, hn⟩ := hO
  simp only at hP hPc hPm hK hKc hKm hKn hn
  subst hact
  have HC := hid (DiskSync_any _ p s A (hD.ext hE) hG)
  have HE := hid hE
  have HD := hid hD
  clear hP hPc hPm hK hKc hKm hKn hn hE hD hgP hgK hG
  go_enter Try.func23, Try.ntmps23
  go_wp2_with fail
  refine HC.out.mono ?_
  rintro e w2 ⟨r, rfl, hpost⟩
  have HP := hid hpost
  clear hpost
  go_wp2
  go_ret2
  exact DoPost.dk HE.out HP.out rfl
set_option maxRecDepth 100000 in
set_option maxHeartbeats 3200000 in
theorem do_2 (w : World) (p : Nat) (s : DkS) (act : Int) (A B : SKey) (aP : Option Addr) (gP oP cP : Nat) (P : List UInt8) (n : Int) (aK : Option Addr) (gK oK cK : Nat) (K : List Int) (hD : Dk w p s) (hG : s.abs.Good) (hO : OkD w ⟨act, A, B, aP, gP, oP, cP, P, n, aK, gK, oK, cK, K⟩) (hgP : P ≠ [] → ¬ s.Blk p gP) (hgK : K ≠ [] → ¬ s.Blk p gK) (hPl : P.length ≤ 1073741824) (hact : act = 2) :
    Calls Try.prog 23 #[.pointer (some ⟨p, 0, none⟩), .agg #[.int .i64 act, .string A.1, .string B.1, .slice aP P.length cP, .int .i64 n, .slice aK K.length cK]] w (DoPost w p s (actA ⟨act, A, B, aP, gP, oP, cP, P, n, aK, gK, oK, cK, K⟩ s.abs)) := by
  have hE : Ext w (w.alloc (.cells #[.int .i64 act, .string A.1, .string B.1, .slice aP P.length cP, .int .i64 n, .slice aK K.length cK] 46)) := (Ext.refl w).alloc _
  obtain ⟨hP, hPc, hPm, hK, hKc, hKm, hKn, hn⟩ := hO
  simp only at hP hPc hPm hK hKc hKm hKn hn
  subst hact
  have HC := hid (DiskMove_any _ p s A B (hD.ext hE) hG)
  have HE := hid hE
  have HD := hid hD
  clear hP hPc hPm hK hKc hKm hKn hn hE hD hgP hgK hG
  go_enter Try.func23, Try.ntmps23
  go_wp2_with fail
  refine HC.out.mono ?_
  rintro e w2 ⟨r, rfl, hpost⟩
  have HP := hid hpost
  clear hpost
  go_wp2
  go_ret2
  exact DoPost.dk HE.out HP.out rfl
set_option maxRecDepth 100000 in
set_option maxHeartbeats 3200000 in
theorem do_3 (w : World) (p : Nat) (s : DkS) (act : Int) (A B : SKey) (aP : Option Addr) (gP oP cP : Nat) (P : List UInt8) (n : Int) (aK : Option Addr) (gK oK cK : Nat) (K : List Int) (hD : Dk w p s) (hG : s.abs.Good) (hO : OkD w ⟨act, A, B, aP, gP, oP, cP, P, n, aK, gK, oK, cK, K⟩) (hgP : P ≠ [] → ¬ s.Blk p gP) (hgK : K ≠ [] → ¬ s.Blk p gK) (hPl : P.length ≤ 1073741824) (hact : act = 3) :
    Calls Try.prog 23 #[.pointer (some ⟨p, 0, none⟩), .agg #[.int .i64 act, .string A.1, .string B.1, .slice aP P.length cP, .int .i64 n, .slice aK K.length cK]] w (DoPost w p s (actA ⟨act, A, B, aP, gP, oP, cP, P, n, aK, gK, oK, cK, K⟩ s.abs)) := by
  have hE : Ext w (w.alloc (.cells #[.int .i64 act, .string A.1, .string B.1, .slice aP P.length cP, .int .i64 n, .slice aK K.length cK] 46)) := (Ext.refl w).alloc _
  obtain ⟨hP, hPc, hPm, hK, hKc, hKm, hKn, hn⟩ := hO
  simp only at hP hPc hPm hK hKc hKm hKn hn
  subst hact
  have HC := hid (DiskRemove_any _ p s A (hD.ext hE) hG)
  have HE := hid hE
  have HD := hid hD
  clear hP hPc hPm hK hKc hKm hKn hn hE hD hgP hgK hG
  go_enter Try.func23, Try.ntmps23
  go_wp2_with fail
  refine HC.out.mono ?_
  rintro e w2 ⟨r, rfl, hpost⟩
  have HP := hid hpost
  clear hpost
  go_wp2
  go_ret2
  exact DoPost.dk HE.out HP.out rfl
set_option maxRecDepth 100000 in
set_option maxHeartbeats 3200000 in
theorem do_4 (w : World) (p : Nat) (s : DkS) (act : Int) (A B : SKey) (aP : Option Addr) (gP oP cP : Nat) (P : List UInt8) (n : Int) (aK : Option Addr) (gK oK cK : Nat) (K : List Int) (hD : Dk w p s) (hG : s.abs.Good) (hO : OkD w ⟨act, A, B, aP, gP, oP, cP, P, n, aK, gK, oK, cK, K⟩) (hgP : P ≠ [] → ¬ s.Blk p gP) (hgK : K ≠ [] → ¬ s.Blk p gK) (hPl : P.length ≤ 1073741824) (hact : act = 4) :
    Calls Try.prog 23 #[.pointer (some ⟨p, 0, none⟩), .agg #[.int .i64 act, .string A.1, .string B.1, .slice aP P.length cP, .int .i64 n, .slice aK K.length cK]] w (DoPost w p s (actA ⟨act, A, B, aP, gP, oP, cP, P, n, aK, gK, oK, cK, K⟩ s.abs)) := by
  have hE : Ext w (w.alloc (.cells #[.int .i64 act, .string A.1, .string B.1, .slice aP P.length cP, .int .i64 n, .slice aK K.length cK] 46)) := (Ext.refl w).alloc _
  obtain ⟨hP, hPc, hPm, hK, hKc, hKm, hKn, hn⟩ := hO
  simp only at hP hPc hPm hK hKc hKm hKn hn
  subst hact
  have HC := hid (DiskRead_any _ p s A (hD.ext hE) hG)
  have HE := hid hE
  have HD := hid hD
  clear hP hPc hPm hK hKc hKm hKn hn hE hD hgP hgK hG
  go_enter Try.func23, Try.ntmps23
  go_wp2_with fail
  refine HC.out.mono ?_
  rintro e w2 ⟨v, rfl, ho, hf, hb⟩
  have hr : actA ⟨4, A, B, aP, gP, oP, cP, P, n, aK, gK, oK, cK, K⟩ s.abs = (s.abs, readA A s.abs) := rfl
  have HO := hid ho
  have HF := hid hf
  have HB := hid (below_trans' HE.out.below hb)
  obtain ⟨q, hq⟩ : ∃ q, q = readA A s.abs := ⟨_, rfl⟩
  rw [← hq] at HO
  rw [← hq]
  have HR := hid (hr.trans (by rw [← hq]))
  clear ho hf hb hr hq
  obtain ⟨qb, qi⟩ := q
  simp only at HO
  simp only
  go_wp2
  go_ret2
  rw [HR.out]
  exact ⟨v, rfl, HO.out, fun g hg => Nat.le_trans (by simp) (HF.out g hg), s, HD.out.below HB.out, rfl, fun g hg => Or.inl hg, below_keeps HB.out⟩
set_option maxRecDepth 100000 in
set_option maxHeartbeats 3200000 in
theorem do_5 (w : World) (p : Nat) (s : DkS) (act : Int) (A B : SKey) (aP : Option Addr) (gP oP cP : Nat) (P : List UInt8) (n : Int) (aK : Option Addr) (gK oK cK : Nat) (K : List Int) (hD : Dk w p s) (hG : s.abs.Good) (hO : OkD w ⟨act, A, B, aP, gP, oP, cP, P, n, aK, gK, oK, cK, K⟩) (hgP : P ≠ [] → ¬ s.Blk p gP) (hgK : K ≠ [] → ¬ s.Blk p gK) (hPl : P.length ≤ 1073741824) (hact : act = 5) :
    Calls Try.prog 23 #[.pointer (some ⟨p, 0, none⟩), .agg #[.int .i64 act, .string A.1, .string B.1, .slice aP P.length cP, .int .i64 n, .slice aK K.length cK]] w (DoPost w p s (actA ⟨act, A, B, aP, gP, oP, cP, P, n, aK, gK, oK, cK, K⟩ s.abs)) := by
  have hE : Ext w (w.alloc (.cells #[.int .i64 act, .string A.1, .string B.1, .slice aP P.length cP, .int .i64 n, .slice aK K.length cK] 46)) := (Ext.refl w).alloc _
  obtain ⟨hP, hPc, hPm, hK, hKc, hKm, hKn, hn⟩ := hO
  simp only at hP hPc hPm hK hKc hKm hKn hn
  subst hact
  have HC := hid (DiskFuse_any _ p s n (hD.ext hE))
  have HE := hid hE
  have HD := hid hD
  clear hP hPc hPm hK hKc hKm hKn hn hE hD hgP hgK hG
  go_enter Try.func23, Try.ntmps23
  go_wp2_with fail
  refine HC.out.mono ?_
  rintro e w2 ⟨rfl, hd, hk⟩
  have HK := hid ((HE.out.keeps (S := s.Blk p)).trans hk (fun g _ hg => Or.inl hg))
  have HD2 := hid hd
  clear hd hk
  go_wp2
  go_ret2
  exact DoPost.mk rfl rfl HD2.out rfl (fun g hg => Or.inl hg) HK.out
set_option maxRecDepth 100000 in
set_option maxHeartbeats 3200000 in
theorem do_6 (w : World) (p : Nat) (s : DkS) (act : Int) (A B : SKey) (aP : Option Addr) (gP oP cP : Nat) (P : List UInt8) (n : Int) (aK : Option Addr) (gK oK cK : Nat) (K : List Int) (hD : Dk w p s) (hG : s.abs.Good) (hO : OkD w ⟨act, A, B, aP, gP, oP, cP, P, n, aK, gK, oK, cK, K⟩) (hgP : P ≠ [] → ¬ s.Blk p gP) (hgK : K ≠ [] → ¬ s.Blk p gK) (hPl : P.length ≤ 1073741824) (hact : act = 6) :
    Calls Try.prog 23 #[.pointer (some ⟨p, 0, none⟩), .agg #[.int .i64 act, .string A.1, .string B.1, .slice aP P.length cP, .int .i64 n, .slice aK K.length cK]] w (DoPost w p s (actA ⟨act, A, B, aP, gP, oP, cP, P, n, aK, gK, oK, cK, K⟩ s.abs)) := by
  have hE : Ext w (w.alloc (.cells #[.int .i64 act, .string A.1, .string B.1, .slice aP P.length cP, .int .i64 n, .slice aK K.length cK] 46)) := (Ext.refl w).alloc _
  obtain ⟨hP, hPc, hPm, hK, hKc, hKm, hKn, hn⟩ := hO
  simp only at hP hPc hPm hK hKc hKm hKn hn
  subst hact
  have HC := hid (DiskBoot_any _ p s aK gK oK cK K (hD.ext hE) hG (hK.below hE.below) hKc hKm hKn hgK)
  have HE := hid hE
  have HD := hid hD
  clear hP hPc hPm hK hKc hKm hKn hn hE hD hgP hgK hG
  go_enter Try.func23, Try.ntmps23
  go_wp2_with fail
  refine HC.out.mono ?_
  rintro e w2 ⟨rfl, s', hd, ha, hb, hk⟩
  have HK := hid ((HE.out.keeps (S := s.Blk p)).trans hk (fun g _ hg => hg))
  have HD2 := hid hd
  have HA := hid ha
  have HB := hid hb
  clear hd hk ha hb
  go_wp2
  go_ret2
  exact DoPost.mk rfl rfl HD2.out HA.out (fun g hg => Or.inl (HB.out g hg)) HK.out
set_option maxRecDepth 100000 in
set_option maxHeartbeats 3200000 in
theorem do_7 (w : World) (p : Nat) (s : DkS) (act : Int) (A B : SKey) (aP : Option Addr) (gP oP cP : Nat) (P : List UInt8) (n : Int) (aK : Option Addr) (gK oK cK : Nat) (K : List Int) (hD : Dk w p s) (hG : s.abs.Good) (hO : OkD w ⟨act, A, B, aP, gP, oP, cP, P, n, aK, gK, oK, cK, K⟩) (hgP : P ≠ [] → ¬ s.Blk p gP) (hgK : K ≠ [] → ¬ s.Blk p gK) (hPl : P.length ≤ 1073741824) (hact : act = 7) :
    Calls Try.prog 23 #[.pointer (some ⟨p, 0, none⟩), .agg #[.int .i64 act, .string A.1, .string B.1, .slice aP P.length cP, .int .i64 n, .slice aK K.length cK]] w (DoPost w p s (actA ⟨act, A, B, aP, gP, oP, cP, P, n, aK, gK, oK, cK, K⟩ s.abs)) := by
  have hE : Ext w (w.alloc (.cells #[.int .i64 act, .string A.1, .string B.1, .slice aP P.length cP, .int .i64 n, .slice aK K.length cK] 46)) := (Ext.refl w).alloc _
  obtain ⟨hP, hPc, hPm, hK, hKc, hKm, hKn, hn⟩ := hO
  simp only at hP hPc hPm hK hKc hKm hKn hn
  subst hact
  have HC := hid (DiskCut_any _ p s A n (hD.ext hE) hG)
  have HE := hid hE
  have HD := hid hD
  clear hP hPc hPm hK hKc hKm hKn hn hE hD hgP hgK hG
  go_enter Try.func23, Try.ntmps23
  go_wp2_with fail
  refine HC.out.mono ?_
  rintro e w2 ⟨r, rfl, hpost⟩
  have HP := hid hpost
  clear hpost
  go_wp2
  go_ret2
  exact DoPost.dk HE.out HP.out rfl
set_option maxRecDepth 100000 in
set_option maxHeartbeats 3200000 in
theorem do_8 (w : World) (p : Nat) (s : DkS) (act : Int) (A B : SKey) (aP : Option Addr) (gP oP cP : Nat) (P : List UInt8) (n : Int) (aK : Option Addr) (gK oK cK : Nat) (K : List Int) (hD : Dk w p s) (hG : s.abs.Good) (hO : OkD w ⟨act, A, B, aP, gP, oP, cP, P, n, aK, gK, oK, cK, K⟩) (hgP : P ≠ [] → ¬ s.Blk p gP) (hgK : K ≠ [] → ¬ s.Blk p gK) (hPl : P.length ≤ 1073741824) (z0 : act ≠ 0) (z1 : act ≠ 1) (z2 : act ≠ 2) (z3 : act ≠ 3) (z4 : act ≠ 4) (z5 : act ≠ 5) (z6 : act ≠ 6) (z7 : act ≠ 7) :
    Calls Try.prog 23 #[.pointer (some ⟨p, 0, none⟩), .agg #[.int .i64 act, .string A.1, .string B.1, .slice aP P.length cP, .int .i64 n, .slice aK K.length cK]] w (DoPost w p s (actA ⟨act, A, B, aP, gP, oP, cP, P, n, aK, gK, oK, cK, K⟩ s.abs)) := by
  have hE : Ext w (w.alloc (.cells #[.int .i64 act, .string A.1, .string B.1, .slice aP P.length cP, .int .i64 n, .slice aK K.length cK] 46)) := (Ext.refl w).alloc _
  obtain ⟨hP, hPc, hPm, hK, hKc, hKm, hKn, hn⟩ := hO
  simp only at hP hPc hPm hK hKc hKm hKn hn
  have HE := hid hE
  have HD := hid hD
  have y0 : (act == 0) = false := by simpa using z0
  have y1 : (act == 1) = false := by simpa using z1
  have y2 : (act == 2) = false := by simpa using z2
  have y3 : (act == 3) = false := by simpa using z3
  have y4 : (act == 4) = false := by simpa using z4
  have y5 : (act == 5) = false := by simpa using z5
  have y6 : (act == 6) = false := by simpa using z6
  have y7 : (act == 7) = false := by simpa using z7
  have HR : Hid (actA ⟨act, A, B, aP, gP, oP, cP, P, n, aK, gK, oK, cK, K⟩ s.abs = (s.abs, ([], 0))) := by
    show actA _ _ = _
    unfold actA
    simp only [z0, z1, z2, z3, z4, z5, z6, z7, if_false]
  clear hP hPc hPm hK hKc hKm hKn hn hE hD hgP hgK hG
  go_enter Try.func23, Try.ntmps23
  go_wp2
  go_ret2
  rw [HR.out]
  exact DoPost.mk rfl rfl (HD.out.ext HE.out) rfl (fun g hg => Or.inl hg) HE.out.keeps
theorem do_any (w : World) (p : Nat) (s : DkS) (x : DAct) (hD : Dk w p s) (hG : s.abs.Good) (hO : OkD w x) (hgP : x.P ≠ [] → ¬ s.Blk p x.gP) (hgK : x.K ≠ [] → ¬ s.Blk p x.gK) (hPl : x.P.length ≤ 1073741824) :
    Calls Try.prog 23 #[.pointer (some ⟨p, 0, none⟩), .agg #[.int .i64 x.act, .string x.A.1, .string x.B.1, .slice x.aP x.P.length x.cP, .int .i64 x.n, .slice x.aK x.K.length x.cK]] w (DoPost w p s (actA x s.abs)) := by
  obtain ⟨act, A, B, aP, gP, oP, cP, P, n, aK, gK, oK, cK, K⟩ := x
  by_cases z0 : act = 0
  · exact do_0 w p s act A B aP gP oP cP P n aK gK oK cK K hD hG hO hgP hgK hPl z0
  by_cases z1 : act = 1
  · exact do_1 w p s act A B aP gP oP cP P n aK gK oK cK K hD hG hO hgP hgK hPl z1
  by_cases z2 : act = 2
  · exact do_2 w p s act A B aP gP oP cP P n aK gK oK cK K hD hG hO hgP hgK hPl z2
  by_cases z3 : act = 3
  · exact do_3 w p s act A B aP gP oP cP P n aK gK oK cK K hD hG hO hgP hgK hPl z3
  by_cases z4 : act = 4
  · exact do_4 w p s act A B aP gP oP cP P n aK gK oK cK K hD hG hO hgP hgK hPl z4
  by_cases z5 : act = 5
  · exact do_5 w p s act A B aP gP oP cP P n aK gK oK cK K hD hG hO hgP hgK hPl z5
  by_cases z6 : act = 6
  · exact do_6 w p s act A B aP gP oP cP P n aK gK oK cK K hD hG hO hgP hgK hPl z6
  by_cases z7 : act = 7
  · exact do_7 w p s act A B aP gP oP cP P n aK gK oK cK K hD hG hO hgP hgK hPl z7
  exact do_8 w p s act A B aP gP oP cP P n aK gK oK cK K hD hG hO hgP hgK hPl z0 z1 z2 z3 z4 z5 z6 z7
end Go.Proofs.Ytopabknlgmihpaa
