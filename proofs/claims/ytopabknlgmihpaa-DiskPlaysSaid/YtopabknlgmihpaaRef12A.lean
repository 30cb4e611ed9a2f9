/- The document's disk: its memory; New, name, deed, At, Used. -/
import Derived.Test.YtopabknlgmihpaaDiskN
import Derived.Test.YtopabknlgmihpaaDiskP
import Derived.Test.YtopabknlgmihpaaSame
namespace Go.Proofs.Ytopabknlgmihpaa
open Go Go.RowKit Go.MapKept Go.ChangeMaps Go.Maps

/-- A file of the document's disk, with the places of its bytes. -/
structure RF where
  name : SKey
  aS : Option Addr
  gS : Nat
  oS : Nat
  cS : Nat
  S : List UInt8
  aT : Option Addr
  gT : Nat
  oT : Nat
  cT : Nat
  T : List UInt8
def encF (f : RF) : List Value := [.string f.name.1, .slice f.aS f.S.length f.cS, .slice f.aT f.T.length f.cT]
theorem encF_len (x : RF) : (encF x).length = 3 := rfl
theorem sizeF : ∀ W, (sizeOf 88).run Try.prog W = .ok 3 W := fun W => by kernel_rfl
theorem RdF {w : World} {a : Option Addr} {g off : Nat} {l : List RF} (h : RdS encF 3 w a g off l) {k : Nat} {x : RF} (hk : l[k]? = some x) : w.cell? ⟨g, off + k * 3, none⟩ = some (.string x.name.1) ∧ w.cell? ⟨g, off + k * 3 + 1, none⟩ = some (.slice x.aS x.S.length x.cS) ∧ w.cell? ⟨g, off + k * 3 + 2, none⟩ = some (.slice x.aT x.T.length x.cT) :=
  ⟨h.cells k x hk 0 _ rfl, h.cells k x hk 1 _ rfl, h.cells k x hk 2 _ rfl⟩
structure RfOk (w : World) (f : RF) : Prop where
  s : RdS encB 1 w f.aS f.gS f.oS f.S
  t : RdS encB 1 w f.aT f.gT f.oT f.T
  sc : f.S.length ≤ f.cS
  tc : f.T.length ≤ f.cT
theorem RfOk.keeps {w w' : World} {f : RF} {S : Nat → Prop} (h : RfOk w f) (k : Keeps S w w') (hs : f.S ≠ [] → ¬ S f.gS) (ht : f.T ≠ [] → ¬ S f.gT) : RfOk w' f := ⟨h.s.keeps k hs, h.t.keeps k ht, h.sc, h.tc⟩
theorem RfOk.below {w w' : World} {f : RF} (h : RfOk w f) (k : Below w.heap.size w w') : RfOk w' f := ⟨h.s.below k, h.t.below k, h.sc, h.tc⟩
/-- What the document's disk holds. -/
structure RkS where
  v : Value
  l : List RF
  room : Int
  fuse : Int
  down : Bool
def RkS.Blk (s : RkS) (q g : Nat) : Prop := g = q ∨ s.v.ownBlock = some g ∨ ∃ f ∈ s.l, (f.S ≠ [] ∧ g = f.gS) ∨ (f.T ≠ [] ∧ g = f.gT)
structure Rk (w : World) (q : Nat) (s : RkS) : Prop where
  cell : w.heap[q]? = some (.cells #[s.v, .int .i64 s.room, .int .i64 s.fuse, .bool s.down] 81 (0, 0))
  own : Owns 0 88 encF 3 w s.v s.l
  ok : ∀ f ∈ s.l, RfOk w f
  vq : s.v.ownBlock ≠ some q
  fs : ∀ f ∈ s.l, f.S ≠ [] → f.gS ≠ q ∧ s.v.ownBlock ≠ some f.gS
  ft : ∀ f ∈ s.l, f.T ≠ [] → f.gT ≠ q ∧ s.v.ownBlock ≠ some f.gT
section
variable {w w' : World} {q : Nat} {s : RkS}
theorem Rk.lt (h : Rk w q s) : ∀ g, s.Blk q g → g < w.heap.size := fun g hg => by
  rcases hg with rfl | hg | ⟨f, hf, ⟨hn, rfl⟩ | ⟨hn, rfl⟩⟩
  · exact (Array.getElem?_eq_some_iff.1 h.cell).1
  · exact (h.own.lt g hg).2
  · exact (h.ok f hf).s.lt hn
  · exact (h.ok f hf).t.lt hn
theorem Rk.keeps {S : Nat → Prop} (h : Rk w q s) (k : Keeps S w w') (hS : ∀ g, s.Blk q g → ¬ S g) : Rk w' q s :=
  ⟨(k.block q (h.lt q (Or.inl rfl)) (hS q (Or.inl rfl))).trans h.cell, h.own.same (fun g hg => k.block g (h.own.lt g hg).2 (hS g (Or.inr (Or.inl hg)))),
    fun f hf => (h.ok f hf).keeps k (fun hn => hS _ (Or.inr (Or.inr ⟨f, hf, Or.inl ⟨hn, rfl⟩⟩))) (fun hn => hS _ (Or.inr (Or.inr ⟨f, hf, Or.inr ⟨hn, rfl⟩⟩))), h.vq, h.fs, h.ft⟩
theorem Rk.below (h : Rk w q s) (k : Below w.heap.size w w') : Rk w' q s := h.keeps (S := fun _ => False) (below_keeps k) (fun _ _ hx => hx)
theorem Rk.ext (h : Rk w q s) (k : Ext w w') : Rk w' q s := h.below k.below
theorem Rk.cells (h : Rk w q s) : w.cell? ⟨q, 0, none⟩ = some s.v ∧ w.cell? ⟨q, 1, none⟩ = some (.int .i64 s.room) ∧ w.cell? ⟨q, 2, none⟩ = some (.int .i64 s.fuse) ∧ w.cell? ⟨q, 3, none⟩ = some (.bool s.down) := by
  simp [World.cell?, h.cell]
theorem Rk.free (h : Rk w q s) (o : Nat) : w.frozen? ⟨q, o, none⟩ = false := by simp [World.frozen?, h.cell]
/-- Another word of the disk. -/
theorem Rk.words (h : Rk w q s) {fuse : Int} {down : Bool} (hc : w'.heap[q]? = some (.cells #[s.v, .int .i64 s.room, .int .i64 fuse, .bool down] 81 (0, 0))) (k : Keeps (· = q) w w') : Rk w' q { s with fuse := fuse, down := down } :=
  ⟨hc, h.own.same (fun g hg => k.block g (h.own.lt g hg).2 (fun e => h.vq (by rw [← e]; exact hg))), fun f hf => (h.ok f hf).keeps k (fun hn => (h.fs f hf hn).1) (fun hn => (h.ft f hf hn).1), h.vq, h.fs, h.ft⟩
theorem Rk.setFuse (h : Rk w q s) (n : Int) : Rk (w.setCell ⟨q, 2, none⟩ (.int .i64 n)) q { s with fuse := n } :=
  h.words (fuse := n) (down := s.down) ((heap_setCell_at h.cell _).trans rfl) (keeps_setCell w q 2 _)
theorem Rk.setDown (h : Rk w q s) (b : Bool) : Rk (w.setCell ⟨q, 3, none⟩ (.bool b)) q { s with down := b } :=
  h.words (fuse := s.fuse) (down := b) ((heap_setCell_at h.cell _).trans rfl) (keeps_setCell w q 3 _)
end
theorem rk_start (w : World) (r : Int) : Rk (w.alloc (.cells #[.slice none 0 0, .int .i64 r, .int .i64 (-1), .bool false] 81)) w.heap.size ⟨.slice none 0 0, [], r, -1, false⟩ :=
  ⟨heap_alloc_new w _, Owns.nil _ _ _ _ _, (fun f hf => by cases hf), (fun e => by cases e), (fun f hf => by cases hf), (fun f hf => by cases hf)⟩
set_option maxRecDepth 100000 in
set_option maxHeartbeats 3200000 in
theorem RefNew12_any (w : World) (room : Int) : Calls Try.prog 25 #[.int .i64 room] w fun e w' => ∃ q, e = .returned (.pointer (some ⟨q, 0, none⟩)) ∧ Rk w' q ⟨.slice none 0 0, [], max room 0, -1, false⟩ ∧ w.heap.size ≤ q ∧ Ext w w' := by
  by_cases hr : 0 ≤ room
  · have hm : max room 0 = room := by omega
    rw [hm]
    go_enter Try.func25, Try.ntmps25
    go_wp2
    go_ret
    exact ⟨_, rfl, rk_start _ _, Nat.le_refl _, (Ext.refl w).alloc _⟩
  · have hm : max room 0 = 0 := by omega
    rw [hm]
    go_enter Try.func25, Try.ntmps25
    go_wp2
    go_ret
    exact ⟨_, rfl, rk_start _ _, Nat.le_refl _, (Ext.refl w).alloc _⟩
def RkS.deed (s : RkS) : RkS := if s.down = true ∨ s.fuse = 0 then { s with down := true } else { s with fuse := burn s.fuse }
def RkS.dead (s : RkS) : Bool := s.down || decide (s.fuse = 0)
set_option maxRecDepth 100000 in
set_option maxHeartbeats 3200000 in
theorem RefDeed_any (w : World) (q : Nat) (s : RkS) (h : Rk w q s) (hb : -1 ≤ s.fuse) (hb2 : s.fuse ≤ 9223372036854775807) : Calls Try.prog 64 #[.pointer (some ⟨q, 0, none⟩)] w fun e w' => e = .returned (.bool s.dead) ∧ Rk w' q s.deed ∧ Keeps (· = q) w w' := by
  obtain ⟨c0, c1, c2, c3⟩ := h.cells
  have hf2 := h.free 2
  have hf3 := h.free 3
  have HH := hid h
  cases hd : s.down with
  | true =>
    have HS := hid (show s.deed = { s with down := true } by unfold RkS.deed; rw [if_pos (Or.inl hd)])
    have HD := hid (show s.dead = true by unfold RkS.dead; rw [hd]; rfl)
    rw [hd] at c3
    clear hd h c0 c1
    go_enter Try.func64, Try.ntmps64
    go_wp2
    go_ret
    exact ⟨by rw [HD.out]; rfl, by rw [HS.out]; exact HH.out.setDown true, keeps_setCell w q 3 _⟩
  | false =>
    rw [hd] at c3
    by_cases h0 : s.fuse = 0
    · have HS := hid (show s.deed = { s with down := true } by unfold RkS.deed; rw [if_pos (Or.inr h0)])
      have HD := hid (show s.dead = true by unfold RkS.dead; rw [hd, h0]; rfl)
      rw [h0] at c2
      clear hd h c0 c1 h0 hb hb2
      go_enter Try.func64, Try.ntmps64
      go_wp2
      go_ret
      exact ⟨by rw [HD.out]; rfl, by rw [HS.out]; exact HH.out.setDown true, keeps_setCell w q 3 _⟩
    · have HS := hid (show s.deed = { s with fuse := burn s.fuse } by unfold RkS.deed; rw [if_neg (by rw [hd]; simp [h0])])
      have HD := hid (show s.dead = false by unfold RkS.dead; rw [hd, decide_eq_false h0]; rfl)
      have h0b : (s.fuse == 0) = false := by simpa using h0
      by_cases hp : 0 < s.fuse
      · have HB := hid (show burn s.fuse = s.fuse - 1 by unfold burn; rw [if_pos hp])
        have hw : IntKind.i64.wrap (s.fuse - 1) = s.fuse - 1 := IntWalk.i64_in _ (by omega)
        clear hd h c0 c1 h0
        go_enter Try.func64, Try.ntmps64
        go_wp2
        go_ret
        exact ⟨by rw [HD.out]; rfl, by rw [HS.out, HB.out]; first | exact HH.out.setFuse _ | (go_num; exact HH.out.setFuse _), by first | exact keeps_setCell w q 2 _ | exact keeps_setCell w q 2 _⟩
      · have HB := hid (show { s with fuse := burn s.fuse } = s by unfold burn; rw [if_neg hp])
        clear hd h c0 c1 h0
        go_enter Try.func64, Try.ntmps64
        go_wp2
        go_ret
        exact ⟨by rw [HD.out]; rfl, by rw [HS.out, HB.out]; exact HH.out, Keeps.refl _ _⟩
def atR (l : List RF) (n : SKey) : Int := match l.findIdx? (fun f => decide (f.name = n)) with
  | none => -1
  | some i => i
theorem atR_none {l : List RF} {n : SKey} (h : ∀ f ∈ l, f.name ≠ n) : atR l n = -1 := by
  unfold atR
  rw [List.findIdx?_eq_none_iff.2 (fun f hf => by simpa using h f hf)]
theorem atR_some {l : List RF} {n : SKey} {k : Nat} (hk : k < l.length) (he : l[k].name = n) (h : ∀ f ∈ l.take k, f.name ≠ n) : atR l n = k := by
  unfold atR
  rw [List.findIdx?_eq_some_iff_getElem.2 ⟨hk, by simpa using he, fun j hj => by
    simpa using h l[j] (List.mem_take_iff_getElem.2 ⟨j, by omega, rfl⟩)⟩]
theorem name_eq {x n : SKey} : (x.1.toList == n.1.toList) = decide (x = n) := by
  by_cases h : x = n
  · subst h; simp
  · rw [decide_eq_false h, beq_eq_false_iff_ne]
    intro e
    rw [ByteArray.toList_eq, ByteArray.toList_eq] at e
    exact h (Subtype.ext (ByteArray.ext (Array.ext' e)))
set_option maxRecDepth 100000 in
set_option maxHeartbeats 3200000 in
theorem RefAt_any (w : World) (q : Nat) (s : RkS) (n : SKey) (h : Rk w q s) (hl : s.l.length ≤ 1000) : Calls Try.prog 66 #[.pointer (some ⟨q, 0, none⟩), .string n.1] w fun e w' => e = .returned (.int .i64 (atR s.l n)) ∧ Ext w w' := by
  obtain ⟨c0, _, _, _⟩ := h.cells
  obtain ⟨aL, gL, oL, cL, hv, hcL, hr, _⟩ := h.own.rd encF_len
  rw [hv] at c0
  generalize s.l = l at *
  clear h hv
  go_enter Try.func66, Try.ntmps66
  go_wp2
  go_loopw [5] (fun s5 wr => ∃ k : Nat, k ≤ l.length ∧ s5 = .int .i64 k ∧ (∀ f ∈ l.take k, f.name ≠ n) ∧ Ext w wr) (fun s5 _ => l.length - (intOf s5).toNat)
  case atStart => exact ⟨0, Nat.zero_le _, rfl, fun f hf => by simp at hf, Ext.refl _⟩
  case round =>
    obtain ⟨k, hk, rfl, hno, hE⟩ := hrel
    have d0 : wr.cell? ⟨q, 0, none⟩ = some (.slice aL l.length cL) := (hE.keeps (S := fun _ => False)).cell (fun h => h) c0
    clear c0
    by_cases hlt : k < l.length
    · have hx := hr.index (P := Try.prog) Try.underlying79 sizeF hlt cL
      have hget : l[k]? = some l[k] := by simp [hlt]
      obtain ⟨f0, f1, f2⟩ := RdF (hr.below hE.below) hget
      have hne := name_eq (x := l[k].name) (n := n)
      have htk : l.take (k + 1) = l.take k ++ [l[k]] := List.take_succ_eq_append_getElem hlt
      by_cases he : l[k].name = n
      · have HA := hid (atR_some hlt he hno)
        rw [decide_eq_true he] at hne
        generalize l[k] = x at *
        have HE := hid hE
        clear he hno htk hr hE hget f1 f2
        go_wp2_with fail
        go_ret
        exact ⟨by rw [HA.out]; rfl, HE.out⟩
      · have HN : Hid (∀ f ∈ l.take (k + 1), f.name ≠ n) := fun f hf => by
          rw [htk] at hf
          rcases List.mem_append.1 hf with hf | hf
          · exact hno f hf
          · rw [List.mem_singleton] at hf; subst hf; exact he
        rw [decide_eq_false he] at hne
        generalize l[k] = x at *
        have HE := hid hE
        have HR := hid hr
        clear he hno htk hr hE hget f1 f2
        go_wp2_with fail
        go_roundw
        case rel => exact ⟨k + 1, by omega, by go_num, HN.out, HE.out⟩
        case measure => simp [intOf]; omega
    · have hk' : l.take k = l := List.take_of_length_le (by omega)
      rw [hk'] at hno
      have HA := hid (atR_none hno)
      have HE := hid hE
      clear hno hr hE hk'
      go_wp2_with fail
      go_ret
      exact ⟨by rw [HA.out]; rfl, HE.out⟩
end Go.Proofs.Ytopabknlgmihpaa
