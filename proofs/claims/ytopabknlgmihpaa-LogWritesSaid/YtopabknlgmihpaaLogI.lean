/- The log's contracts in one shape; append of slices of bytes. -/
import Derived.Test.YtopabknlgmihpaaLogH
import Derived.Laws.OwnMore
namespace Go.Proofs.Ytopabknlgmihpaa
open Go Go.RowKit Go.MapKept Go.ChangeMaps Go.Maps

section
variable {α : Type} {enc : α → List Value} {k : Nat} {P : Program}
/-- append(s, t...): a row that the call owns, of typed elements. -/
theorem run_append_E {t e : TypeId} {bytes : Nat} (T : ElemT P t e enc k bytes) (w : World) (base : Nat) (v : Value) (l : List α) (hown : Owns base e enc k w v l) (ty : TypeId)
    (a : Option Addr) (g off cap : Nat) (m : List α) (h : RdS enc k w a g off m) (hn : a = none → cap = 0) (hlen : l.length + m.length ≤ 100000) (hbase : base ≤ w.heap.size) :
    ∃ v' w', (Builtin.append_ #[t, t] ty #[v, .slice a m.length cap]).run P w = .ok v' w' ∧ Owns base e enc k w' v' (l ++ m) ∧ w.grownBy w' v.ownBlock ∧ (v'.ownBlock = v.ownBlock ∨ v'.ownBlock = some w.heap.size) := by
  obtain ⟨i, z, hi, hz, hsz, hby, hzs⟩ := T.info
  have hl : ∀ l : List α, (l.flatMap enc).length = l.length * k := fun l => by
    induction l with
    | nil => simp
    | cons x r ih => rw [List.flatMap_cons, List.length_append, T.len, ih, List.length_cons, Nat.add_mul]; omega
  cases a with
  | none =>
    have hm : m = [] := by
      by_cases h0 : m = []
      · exact h0
      · cases h.some h0
    subst hm
    rw [hn rfl]
    exact ⟨v, w, run_append_owned_none w base t ty e i k T.under hi v l.length _ hown, by simpa using hown, ⟨rfl, rfl, rfl, Nat.le_refl _, fun _ _ _ => rfl⟩, Or.inl rfl⟩
  | some ad =>
    have hb : (l.length + m.length) * bytes ≤ 140737488355328 := by
      have h1 := T.small
      have : (l.length + m.length) * bytes ≤ 100000 * 1000 := Nat.mul_le_mul hlen h1
      omega
    have hnew : ∀ j u, (m.flatMap enc)[j]? = some u → w.cell? (ad.add j) = some u := fun j u hu => by
      have hne : m ≠ [] := by intro e; subst e; simp at hu
      have ha := h.some hne
      simp only [Option.some.injEq] at ha
      subst ha
      have hj : j < m.length * k := by rw [← hl]; exact (List.getElem?_eq_some_iff.1 hu).1
      have hpos := T.pos
      have hq : j / k < m.length := (Nat.div_lt_iff_lt_mul hpos).2 hj
      obtain ⟨x, hx⟩ : ∃ x, m[j / k]? = some x := ⟨_, List.getElem?_eq_getElem hq⟩
      have hjm : j = (j / k) * k + j % k := by have := Nat.div_add_mod j k; rw [Nat.mul_comm] at this; exact this.symm
      have hfm : ∀ (m : List α) (q r : Nat) (x : α), m[q]? = some x → r < k → (m.flatMap enc)[q * k + r]? = (enc x)[r]? := by
        intro m
        induction m with
        | nil => intro q r x hx; simp at hx
        | cons y s ih =>
          intro q r x hx hr
          rw [List.flatMap_cons]
          cases q with
          | zero =>
            simp only [List.getElem?_cons_zero, Option.some.injEq] at hx
            subst hx
            rw [List.getElem?_append_left (by rw [T.len]; omega)]
            simp
          | succ q =>
            simp only [List.getElem?_cons_succ] at hx
            rw [List.getElem?_append_right (by rw [T.len, Nat.add_mul]; omega), T.len, ← ih q r x hx hr]
            congr 1
            rw [Nat.add_mul]
            omega
      have hr := hfm m (j / k) (j % k) x hx (Nat.mod_lt _ hpos)
      rw [← hjm, hu] at hr
      have := h.cells (j / k) x hx (j % k) u hr.symm
      rw [add_lit]
      rw [show off + j = off + j / k * k + j % k by omega]
      exact this
    obtain ⟨v', w', hr, h2, h3, _, hat⟩ := run_append_own_at (P := P) w base t ty e i z k bytes T.under hi hz hsz hby hzs T.pos v l.length _ hown ad m.length cap (m.flatMap enc) (hl m) hnew (fun u hu => by
      obtain ⟨x, _, hx⟩ := List.mem_flatMap.1 hu
      exact T.one x u hx) (by unfold maxLen; omega) hb hbase
    refine ⟨v', w', hr, ?_, h3, hat⟩
    unfold Owns
    rw [List.length_append, List.flatMap_append]
    exact h2
/-- At the operation. -/
theorem wp_append_E {t e : TypeId} {bytes : Nat} (T : ElemT P t e enc k bytes) {o : Oper} {act : Act} {w : World} {K : Act → World → Prop} {Q : Exit → Act → World → Prop} (s x : Operand)
    (ho : o.op = .call { callee := .builtin .append, args := #[s, x], argTypes := #[t, t] }) (base : Nat) (v : Value) (l : List α) (hs : act.eval s = v) (hown : Owns base e enc k w v l)
    (a : Option Addr) (g off cap : Nat) (m : List α) (hx : act.eval x = .slice a m.length cap) (h : RdS enc k w a g off m) (hn : a = none → cap = 0) (hlen : l.length + m.length ≤ 100000) (hbase : base ≤ w.heap.size)
    (hq : ∀ v' w', Owns base e enc k w' v' (l ++ m) → w.grownBy w' v.ownBlock → (v'.ownBlock = v.ownBlock ∨ v'.ownBlock = some w.heap.size) → K (act.put o.dst v') w') : o.wp P act w K Q := by
  obtain ⟨v', w', hr, h2, h3, h4⟩ := run_append_E T w base v l hown o.type a g off cap m h hn hlen hbase
  unfold Oper.wp execOp
  simp only [ho, resolve, invoke, builtin, Sem.run_bind, Sem.run_pure, Result.andThen_ok, List.map_toArray, List.map_cons, List.map_nil, hs, hx, hr]
  exact hq v' w' h2 h3 h4
end
/-- A slice of slices, cut at its end. -/
theorem rd_takeBS {w : World} {a : Option Addr} {g off cap : Nat} {l : List BS} (h : RdS encBS 1 w a g off l) (hc : l.length ≤ cap) {k : Nat} (hk : k ≤ l.length) : (∀ W, (Instr.slice 55 (.slice a l.length cap) none (some (.int .i64 k)) none).run Try.prog W = .ok (.slice a k cap) W) ∧ RdS encBS 1 w a g off (l.take k) := by
  refine ⟨fun W => ?_, ?_, ?_, ?_⟩
  · have h1 : k ≤ cap := by omega
    by_cases h0 : cap = 0
    · subst h0
      cases a with
      | none => simp [Instr.slice, run_underlying Try.underlying55, sizeBS, Instr.sliceBounds, Instr.sliceBound, asIntOf, h1]
      | some a => simp [Instr.slice, run_underlying Try.underlying55, sizeBS, Instr.sliceBounds, Instr.sliceBound, asIntOf, h1, Addr.add]
    · cases a with
      | none => simp [Instr.slice, run_underlying Try.underlying55, sizeBS, Instr.sliceBounds, Instr.sliceBound, asIntOf, h1]
      | some a => simp [Instr.slice, run_underlying Try.underlying55, sizeBS, Instr.sliceBounds, Instr.sliceBound, asIntOf, h1, h0, Addr.add]
  · intro hne
    refine h.some (fun e => hne (by rw [e]; simp))
  · intro hne
    refine h.lt (fun e => hne (by rw [e]; simp))
  · intro i x hx j y hy
    rw [List.getElem?_take] at hx
    split at hx
    · exact h.cells i x hx j y hy
    · cases hx
/-- Too many records, or too long ones. -/
def greatB (l : List BS) : Bool := (l.take 10).any (fun x => decide (100 < x.bs.length)) || decide (10 < l.length)
theorem greatB_false {l : List BS} (h : greatB l = false) : (∀ p ∈ l.map (fun x => x.bs), p.length ≤ 100) ∧ l.length ≤ 10 := by
  unfold greatB at h
  rw [Bool.or_eq_false_iff] at h
  obtain ⟨h1, h2⟩ := h
  have hl : l.length ≤ 10 := by simpa using h2
  rw [List.take_of_length_le hl] at h1
  refine ⟨fun p hp => ?_, hl⟩
  obtain ⟨x, hx, rfl⟩ := List.mem_map.1 hp
  have := List.any_eq_false.1 h1 x hx
  simpa using this
theorem great_at (w : World) (a : Option Addr) (g off cap : Nat) (l : List BS) (h : RdS encBS 1 w a g off l) (hl : l.length ≤ cap) (hcm : cap ≤ maxLen) : Calls Try.prog 28 #[.slice a l.length cap, .int .i64 10, .int .i64 100] w fun e w' => e = .returned (.bool (greatB l)) ∧ w' = w := Great_any w a g off cap l 10 100 h hl hcm (by omega)

/-- A disk that the call made, and a log on it. -/
structure LS (w0 w : World) (p : Nat) (d : AD) (s : DkS) : Prop where
  dk : Dk w p s
  abs : s.abs = d
  good : d.Good
  blk : ∀ g, s.Blk p g → w0.heap.size ≤ g
  bel : Below w0.heap.size w0 w
structure LG (w : World) (lg p : Nat) (s : DkS) : Prop where
  at_ : LogAt w lg p nL
  nb : ¬ s.Blk p lg
def LD (w0 w : World) (p : Nat) (d : AD) : Prop := ∃ s, LS w0 w p d s
def LW (w0 w : World) (lg p : Nat) (d : AD) : Prop := ∃ s, LS w0 w p d s ∧ LG w lg p s
theorem LW.bel {w0 w : World} {lg p : Nat} {d : AD} (h : LW w0 w lg p d) : Below w0.heap.size w0 w := by
  obtain ⟨s, h, _⟩ := h
  exact h.bel
theorem LD.bel {w0 w : World} {p : Nat} {d : AD} (h : LD w0 w p d) : Below w0.heap.size w0 w := by
  obtain ⟨s, h⟩ := h
  exact h.bel
theorem LW.ld {w0 w : World} {lg p : Nat} {d : AD} (h : LW w0 w lg p d) : LD w0 w p d := by
  obtain ⟨s, h, _⟩ := h
  exact ⟨s, h⟩
theorem LS.step {w0 w w' : World} {p : Nat} {d d' : AD} {s : DkS} {x y : Int} {f : AD → AD × Int} (h : LS w0 w p d s) (hp : DkPost w p s (deedA f s.abs) x w') (he : deedA f d = (d', y)) (hg : d'.Good) :
    ∃ s', LS w0 w' p d' s' ∧ x = y ∧ ∀ lg, LG w lg p s → LG w' lg p s' := by
  rw [h.abs, he] at hp
  obtain ⟨s', hD, ha, hx, hb, hk⟩ := hp
  refine ⟨s', ⟨hD, ha, hg, fun g hg => (hb g hg).elim (h.blk g) (fun h1 => Nat.le_trans h.bel.size h1), h.bel.trans (hk.below (B := w0.heap.size) h.bel.size h.blk)⟩, hx, fun lg hl => ⟨hl.at_.keeps hk hl.nb, fun hx => ?_⟩⟩
  rcases hb lg hx with h1 | h1
  · exact hl.nb h1
  · have := hl.at_.lt; omega
theorem LW.add {w0 w : World} {lg p : Nat} {d d' : AD} {y : Int} {x : BS} (h : LW w0 w lg p d) (hO : OkBS w x) (hl : x.bs.length ≤ 200) (he : deedA (appendA nL (formB x.bs)) d = (d', y)) :
    Calls Try.prog 31 #[.pointer (some ⟨lg, 0, none⟩), .slice x.a x.bs.length x.c] w fun e w' => e = .returned (.int .i64 y) ∧ LW w0 w' lg p d' := by
  obtain ⟨s, hS, hL⟩ := h
  refine (LogAdd_any w lg p s nL x hL.at_ hL.nb hS.dk (by rw [hS.abs]; exact hS.good) hO hl).mono ?_
  rintro e w' ⟨r, rfl, hr⟩
  obtain ⟨s', h1, h2, h3⟩ := hS.step hr he (good_append hS.good he)
  exact ⟨by rw [h2], s', h1, h3 lg hL⟩
theorem LW.flush {w0 w : World} {lg p : Nat} {d d' : AD} {y : Int} (h : LW w0 w lg p d) (he : deedA (syncA nL) d = (d', y)) :
    Calls Try.prog 32 #[.pointer (some ⟨lg, 0, none⟩)] w fun e w' => e = .returned (.int .i64 (if y = 8 then 0 else y)) ∧ LW w0 w' lg p d' := by
  obtain ⟨s, hS, hL⟩ := h
  refine (LogFlush_any w lg p s nL hL.at_ hL.nb hS.dk (by rw [hS.abs]; exact hS.good)).mono ?_
  rintro e w' ⟨r, rfl, hr⟩
  obtain ⟨s', h1, h2, h3⟩ := hS.step hr he (good_sync hS.good he)
  exact ⟨by rw [h2], s', h1, h3 lg hL⟩
theorem LS.fuse {w0 w : World} {p : Nat} {d : AD} {s : DkS} (h : LS w0 w p d s) (n : Int) (hn : 0 ≤ n ∧ n ≤ 1000) :
    Calls Try.prog 14 #[.pointer (some ⟨p, 0, none⟩), .int .i64 n] w fun e w' => e = .returned (.tuple #[]) ∧ ∃ s', LS w0 w' p ⟨d.room, n, d.down, d.l⟩ s' ∧ ∀ lg, LG w lg p s → LG w' lg p s' := by
  refine (DiskFuse_any w p s n h.dk).mono ?_
  rintro e w' ⟨rfl, hD, hk⟩
  have hmx : max n (-1) = n := by omega
  rw [hmx] at hD
  refine ⟨rfl, { s with fuse := n }, ⟨hD, ?_, ?_, h.blk, h.bel.trans (hk.below (B := w0.heap.size) h.bel.size (fun g hg => h.blk g (Or.inl hg)))⟩, fun lg hl => ⟨hl.at_.keeps hk (fun e => hl.nb (Or.inl e)), hl.nb⟩⟩
  · have := h.abs
    subst this
    rfl
  · have h1 := h.good
    exact ⟨h1.keys, h1.sure, h1.len, h1.tot, h1.room, by simp only; omega⟩
theorem LW.fuse {w0 w : World} {lg p : Nat} {d : AD} (h : LW w0 w lg p d) (n : Int) (hn : 0 ≤ n ∧ n ≤ 1000) :
    Calls Try.prog 14 #[.pointer (some ⟨p, 0, none⟩), .int .i64 n] w fun e w' => e = .returned (.tuple #[]) ∧ LW w0 w' lg p ⟨d.room, n, d.down, d.l⟩ := by
  obtain ⟨s, hS, hL⟩ := h
  refine (hS.fuse n hn).mono ?_
  rintro e w' ⟨h1, s', h2, h3⟩
  exact ⟨h1, s', h2, h3 lg hL⟩
theorem LD.fuse {w0 w : World} {p : Nat} {d : AD} (h : LD w0 w p d) (n : Int) (hn : 0 ≤ n ∧ n ≤ 1000) :
    Calls Try.prog 14 #[.pointer (some ⟨p, 0, none⟩), .int .i64 n] w fun e w' => e = .returned (.tuple #[]) ∧ LD w0 w' p ⟨d.room, n, d.down, d.l⟩ := by
  obtain ⟨s, hS⟩ := h
  refine (hS.fuse n hn).mono ?_
  rintro e w' ⟨h1, s', h2, _⟩
  exact ⟨h1, s', h2⟩
theorem LD.boot {w0 w : World} {p : Nat} {d : AD} (h : LD w0 w p d) (q : Int) :
    Calls Try.prog 15 #[.pointer (some ⟨p, 0, none⟩), .slice (some ⟨w.heap.size, 0, none⟩) 1 1] (w.alloc (.cells #[.int .i64 q] 3)) fun e w' => e = .returned (.tuple #[]) ∧ LD w0 w' p (bootA [q] d) := by
  obtain ⟨s, h⟩ := h
  have hE : Ext w (w.alloc (.cells #[.int .i64 q] 3)) := (Ext.refl w).alloc _
  have hb : Below w0.heap.size w0 (w.alloc (.cells #[.int .i64 q] 3)) := h.bel.trans (hE.below.mono h.bel.size)
  refine (DiskBoot_any (w.alloc (.cells #[.int .i64 q] 3)) p s _ _ _ 1 [q] (h.dk.ext hE) (by rw [h.abs]; exact h.good) (rd_newI w 3 [q] (cs := #[.int .i64 q]) rfl) (by simp) (by unfold maxLen; omega) (by simp) (fun _ hx => by have := h.dk.lt _ hx; omega)).mono ?_
  rintro e w' ⟨rfl, s', hD, ha, hB, hk⟩
  refine ⟨rfl, s', hD, ?_, h.good.boot [q], fun g hg => h.blk g (hB g hg), hb.trans (hk.below hb.size h.blk)⟩
  rw [ha, h.abs]
theorem LD.open {w0 w : World} {p : Nat} {d : AD} {rs : List (List UInt8)} (h : LD w0 w p d) (hc : CanOpen d rs) :
    Calls Try.prog 30 #[.pointer (some ⟨p, 0, none⟩), .string nL.1] w fun e w' => ∃ lg a g o c l, e = .returned (.tuple #[.pointer (some ⟨lg, 0, none⟩), .slice a l.length c, .int .i64 0]) ∧ RdS encBS 1 w' a g o l ∧ l.length ≤ c ∧ (∀ x ∈ l, OkBS w' x) ∧ l.map (fun x => x.bs) = rs ∧ Below w0.heap.size w0 w' := by
  obtain ⟨s, h⟩ := h
  obtain ⟨b, er, d2, h1, h2, h3, h4⟩ := hc
  rw [← h.abs] at h1 h4
  refine (LogOpen_any w p s nL b er rs d2 h.dk (by rw [h.abs]; exact h.good) h1 h2 h3 h4).mono ?_
  rintro e w' ⟨lg, s', v, l, rfl, _, _, _, _, _, _, hk, hr, hok, hm⟩
  obtain ⟨a, g, o, c, rfl, hc, hr, _⟩ := hr
  exact ⟨lg, a, g, o, c, l, rfl, hr, hc, hok, hm, h.bel.trans (hk.below h.bel.size h.blk)⟩
/-- The first opening, of a new disk. -/
theorem LD.first {w0 w : World} {p : Nat} (h : LD w0 w p ⟨10000, -1, false, []⟩) :
    Calls Try.prog 30 #[.pointer (some ⟨p, 0, none⟩), .string nL.1] w fun e w' => ∃ lg v, e = .returned (.tuple #[.pointer (some ⟨lg, 0, none⟩), v, .int .i64 0]) ∧ LW w0 w' lg p ⟨10000, -1, false, []⟩ := by
  obtain ⟨s, h⟩ := h
  refine (LogOpen_any w p s nL [] 8 [] ⟨10000, -1, false, []⟩ h.dk (by rw [h.abs]; exact h.good) (by rw [h.abs]; simp [readA, aget]) (Or.inr rfl) file_nil (Or.inr ⟨by simp [offB], h.abs.symm⟩)).mono ?_
  rintro e w' ⟨lg, s', v, l, rfl, hL, hn, _, hD, ha, hb, hk, _, _, _⟩
  exact ⟨lg, v, rfl, s', ⟨hD, ha, h.good, fun g hg => (hb g hg).elim (h.blk g) (fun h1 => Nat.le_trans h.bel.size h1), h.bel.trans (hk.below h.bel.size h.blk)⟩, hL, hn⟩
theorem LD.new (w : World) : Calls Try.prog 11 #[.int .i64 10000] w fun e w' => ∃ p, e = .returned (.pointer (some ⟨p, 0, none⟩)) ∧ LD w w' p ⟨10000, -1, false, []⟩ := by
  refine (DiskNew_any w 10000).mono ?_
  rintro e w' ⟨p, s, rfl, hD, ha, hB, hE⟩
  have ha2 : s.abs = ⟨10000, -1, false, []⟩ := ha
  exact ⟨p, rfl, s, hD, ha2, goodNew 10000 (by omega) (by omega), hB, hE.below⟩
end Go.Proofs.Ytopabknlgmihpaa
