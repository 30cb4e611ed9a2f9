/- The index: near, meets, Deps, Seq. -/
import Derived.Test.YtlepfohhfngndaaIndexA
namespace Go.Proofs.Ytlepfohhfngndaa
open Go Go.RowKit Go.MapKept Go.ChangeMaps Go.Maps

def encG (o : Option Nat) : List Value := [.map o]
theorem encG_len (o : Option Nat) : (encG o).length = 1 := rfl
theorem sizeG : ∀ W, (sizeOf 86).run Try.prog W = .ok 1 W := fun W => by kernel_rfl
theorem infoG : (Try.prog.info? 86).map (fun i => (i.zero, i.size, i.bytes)) = some (some (.map none), 1, 8) := by kernel_rfl
theorem oneG : ∀ x : Option Nat, ∀ u ∈ encG x, u.oneCell' = true := fun x u hu => by simp [encG] at hu; subst hu; rfl
theorem elemG : ElemT Try.prog 101 86 encG 1 8 := by
  obtain ⟨i, hi, hz0, hz1, hz2⟩ := info_parts infoG
  exact ⟨Try.underlying101, ⟨i, _, hi, hz0, hz1, hz2, rfl⟩, encG_len, by omega, oneG, by omega⟩

theorem byteArray_ext_list {a b : ByteArray} (h : a.toList = b.toList) : a = b := by
  rw [ByteArray.toList_eq, ByteArray.toList_eq] at h
  exact ByteArray.ext (Array.toList_inj.1 h)
/-- A group's ids. -/
def IxS.grp (s : IxS) (g : Nat) : List (Id × Unit) := if g = s.mw then s.lw else s.gr g
/-- What near hands out: groups of the index, in which all lie that a command meets. -/
structure Near (s : IxS) (c : Cmd) (L : List (Option Nat)) : Prop where
  all : ∀ i e, aget s.la i = some e → meetB c e.1 = true → ∃ g, some g ∈ L ∧ ahas (s.grp g) i = true
  grp : ∀ g, some g ∈ L → g ∈ s.gs ∨ g = s.mw
  len : L.length ≤ s.lk.length + 3
theorem Ix.grp_at {w : World} {b : Nat} {s : IxS} (h : Ix w b s) {g : Nat} (hg : g ∈ s.gs ∨ g = s.mw) : MapIs vId vT w g (s.grp g) := by
  unfold IxS.grp
  rcases hg with hg | rfl
  · rw [if_neg (h.ne.2.2.2.2.2.2.2.2.2.2.1 g hg).2.2.2.2]
    exact h.grp g hg
  · rw [if_pos rfl]
    exact h.wide
theorem Inv.grp {w : World} {b : Nat} {s : IxS} (hv : Inv s) (h : Ix w b s) {g : Nat} (hg : g ∈ s.gs ∨ g = s.mw) (i : Id) (hi : ahas (s.grp g) i = true) : ∃ e, aget s.la i = some e := by
  unfold IxS.grp at hi
  rcases hg with hg | rfl
  · rw [if_neg (h.ne.2.2.2.2.2.2.2.2.2.2.1 g hg).2.2.2.2] at hi
    simp only [IxS.gs, List.mem_append, List.mem_map] at hg
    rcases hg with ⟨⟨k, g'⟩, hp, rfl⟩ | ⟨⟨k, g'⟩, hp, rfl⟩
    · obtain ⟨e, he, _⟩ := hv.k.out k g' i (aget_some h.keys.nodup hp) hi
      exact ⟨e, he⟩
    · obtain ⟨e, he, _⟩ := hv.c.out k g' i (aget_some h.clients.nodup hp) hi
      exact ⟨e, he⟩
  · rw [if_pos rfl] at hi
    obtain ⟨e, he, _⟩ := (hv.w i).1 hi
    exact ⟨e, he⟩
theorem Near.wide {w : World} {b : Nat} {s : IxS} (hv : Inv s) (h : Ix w b s) (c : Cmd) {L : List (Option Nat)} (hL : L.Perm (s.lk.map (fun p => some p.2))) : Near s c L := by
  refine ⟨fun i e hi _ => ?_, fun g hg => ?_, by rw [hL.length_eq, List.length_map]; omega⟩
  · obtain ⟨g, hg, ha⟩ := hv.k.into i e hi
    have hgs := h.gsK hg
    refine ⟨g, hL.mem_iff.2 (List.mem_map.2 ⟨_, mem_of_aget hg, rfl⟩), ?_⟩
    unfold IxS.grp
    rw [if_neg (h.ne.2.2.2.2.2.2.2.2.2.2.1 g hgs).2.2.2.2]
    exact ha
  · obtain ⟨p, hp, he⟩ := List.mem_map.1 (hL.mem_iff.1 hg)
    cases he
    exact Or.inl (by simp only [IxS.gs, List.mem_append, List.mem_map]; exact Or.inl ⟨p, hp, rfl⟩)
theorem Near.three {w : World} {b : Nat} {s : IxS} (hv : Inv s) (h : Ix w b s) (c : Cmd) (hw : isWideB c = false) : Near s c [aget s.lk ⟨c.key, c.hk⟩, aget s.lc ⟨c.client, c.hc⟩, some s.mw] := by
  refine ⟨fun i e hi hm => ?_, fun g hg => ?_, by simp⟩
  · by_cases hwe : isWideB e.1 = true
    · refine ⟨s.mw, by simp, ?_⟩
      unfold IxS.grp
      rw [if_pos rfl]
      exact (hv.w i).2 ⟨e, hi, hwe⟩
    · by_cases hk : e.1.key = c.key
      · obtain ⟨g, hg, ha⟩ := hv.k.into i e hi
        have hgs := h.gsK hg
        have hke : kOf e = ⟨c.key, c.hk⟩ := Subtype.ext hk
        rw [hke] at hg
        refine ⟨g, by simp [hg], ?_⟩
        unfold IxS.grp
        rw [if_neg (h.ne.2.2.2.2.2.2.2.2.2.2.1 g hgs).2.2.2.2]
        exact ha
      · by_cases hc : e.1.client = c.client
        · obtain ⟨g, hg, ha⟩ := hv.c.into i e hi
          have hgs := h.gsC hg
          have hke : cOf e = ⟨c.client, c.hc⟩ := Subtype.ext hc
          rw [hke] at hg
          refine ⟨g, by simp [hg], ?_⟩
          unfold IxS.grp
          rw [if_neg (h.ne.2.2.2.2.2.2.2.2.2.2.1 g hgs).2.2.2.2]
          exact ha
        · exfalso
          have hw1 : isWideB e.1 = false := by simpa using hwe
          unfold isWideB at hw hw1
          unfold meetB keysB at hm
          simp only [Bool.or_eq_false_iff] at hw hw1
          have hkl : (c.key.toList == e.1.key.toList) = false := by
            rw [beq_eq_false_iff_ne]
            intro e0
            exact hk (byteArray_ext_list e0.symm)
          have hcc : (c.client == e.1.client) = false := by
            rw [beq_eq_false_iff_ne]
            exact fun e0 => hc e0.symm
          simp [hw.1, hw.2, hw1.1, hw1.2, hkl, hcc] at hm
  · simp only [List.mem_cons, List.not_mem_nil, or_false] at hg
    rcases hg with hg | hg | hg
    · exact Or.inl (h.gsK hg.symm)
    · exact Or.inl (h.gsC hg.symm)
    · cases hg; exact Or.inr rfl

set_option maxRecDepth 100000 in
set_option maxHeartbeats 3200000 in
theorem near_any (w : World) (b : Nat) (s : IxS) (c : Cmd) (h : Ix w b s) (hv : Inv s) (hk : s.lk.length ≤ 200) :
    Calls Try.prog 60 #[.pointer (some ⟨b, 0, none⟩), .agg #[.int .i64 c.kind, .int .i64 c.client, .int .i64 c.seq, .string c.key, .string c.val, .int .i64 c.rev]] w fun e w' => ∃ v L, e = .returned v ∧ Rd encG 1 w' v L ∧ (∀ g, v.ownBlock = some g → w.heap.size ≤ g) ∧ Near s c L ∧ Below w.heap.size w w' := by
  have hE0 : Ext w (w.alloc (.cells #[.int .i64 c.kind, .int .i64 c.client, .int .i64 c.seq, .string c.key, .string c.val, .int .i64 c.rev] 49)) := (Ext.refl w).alloc _
  have hb := h.lt b (by simp [IxS.blocks])
  cases hwd : isWideB c
  case true =>
    have HW := hid (fun W => isWide_any c W)
    rw [hwd] at HW
    clear hwd
    go_enter Try.func60, Try.ntmps60
    go_wp2_with fail
    refine (HW.out _).mono ?_
    rintro e w1 ⟨rfl, hE1⟩
    have hE := hE0.trans hE1
    have hI1 := h.ext hE
    obtain ⟨x0, x1, x2, x3⟩ := hI1.cells
    obtain ⟨ob, hr, hR⟩ := hI1.keys.range (P := Try.prog) Try.underlying83
    have hs1 := hE.size
    have HE := hid hE
    have HI1 := hid hI1
    have hkl := hI1.keys.lt
    clear hE1 hE hE0 hI1
    go_wp2
    go_loopw [5] (fun s5 wr => ∃ left done, Rng vS vG wr s.mq w1.heap.size s.lk left ∧ (done ++ left).Perm s.lk ∧ Owns (w1.heap.size + 1) 86 encG 1 wr s5 (done.map (fun p : SKey × Nat => some p.2)) ∧ Below w1.heap.size w1 wr) (fun _ wr => rngLeft wr s.mq w1.heap.size)
    case atStart => exact ⟨s.lk, [], hR, List.Perm.refl _, Owns.nil _ _ _ _ _, ((Ext.refl w1).alloc _).below⟩
    case round =>
      obtain ⟨left, done, hRl, hp, hown, hb2⟩ := hrel
      have HL := hid hRl.left_eq
      have hrlt := hRl.lt
      have hlen := hp.length_eq
      rw [List.length_append] at hlen
      rcases hRl.next (P := Try.prog) with ⟨h0, hn⟩ | ⟨a, p, cs, w', hl', hn, hR', ⟨w2, o1, hw2, hw'⟩, he⟩
      · subst h0
        rw [List.append_nil] at hp
        have HP : Hid (Near s c (done.map (fun p : SKey × Nat => some p.2))) := Near.wide hv h c (hp.map _)
        have HB := hid (HE.out.below.trans (hb2.mono hs1))
        have HO := hid hown
        clear hown hb2 hRl
        go_wp2
        go_ret
        exact ⟨_, _, rfl, Owns.rd encG_len HO.out, fun g hg => by have := (HO.out.lt g hg).1; omega, HP.out, HB.out⟩
      · rw [hl'] at hp
        have hb' : Below w1.heap.size w1 w' := hb2.trans (by
          rw [hw']
          have : Keeps (· = w1.heap.size) wr (setBlock w2 w1.heap.size o1) := by
            rcases hw2 with rfl | rfl
            · exact (Keeps.refl (· = w1.heap.size) _).setBlock (fun _ => rfl) _
            · exact ((Keeps.refl (· = w1.heap.size) _).drew).setBlock (fun _ => rfl) _
          exact this.below (by have := hb2.size; omega) (fun k hk => by omega))
        have hown' : Owns (w1.heap.size + 1) 86 encG 1 w' u5 (done.map (fun p : SKey × Nat => some p.2)) := hown.same fun g hg => by
          have := (hown.lt g hg).1
          rw [hw', setBlock_other _ _ _ (by omega)]
          rcases hw2 with rfl | rfl <;> rfl
        have hp' : ((done ++ [p]) ++ (a ++ cs)).Perm s.lk := by
          refine List.Perm.trans ?_ hp
          rw [List.append_assoc]
          exact List.Perm.append_left _ (by simpa using List.perm_middle.symm)
        have hm' : rngLeft w' s.mq w1.heap.size < rngLeft wr s.mq w1.heap.size := by
          rw [hR'.left_eq, HL.out, hl']
          simp
        have hsz' : w1.heap.size < w'.heap.size := hR'.lt
        have HM := hid hm'
        have HP := hid hp'
        simp only [vS, vG] at hn he
        clear hw2 hw' hown hb2 hRl hm' hp' hp hl'
        go_wp2_with (at_builtin; refine wpList_push elemG rfl _ _ rfl (w1.heap.size + 1) _ (done.map (fun p : SKey × Nat => some p.2)) rfl (hown'.alloc _) w'.heap.size 1 (some p.2) rfl (cells_new _ _ _) (by simp; omega) (by simp; omega) ?_; intro v' w3 hown3 hgrow)
        have hg2 : ∀ i, i < w'.heap.size → i < w1.heap.size + 1 → w3.heap[i]? = w'.heap[i]? := fun i hi1 hi2 => by
          rw [hgrow.block i (by simp; omega) (fun e0 => by have := (hown'.lt i e0.symm).1; omega), Below.heap_alloc _ _ _ hi1]
        have hR3 := hR'.same (hg2 s.mq hR'.map.lt (by omega)) (hg2 _ hR'.lt (by omega))
        go_roundw
        case rel => exact ⟨_, done ++ [p], hR3, HP.out, by rw [List.map_append]; exact hown3, Owns.pushB (hown'.alloc _) (hb'.alloc (by omega) _) hgrow (by simp; omega) (by omega)⟩
        case measure => rw [hR3.left_eq, ← hR'.left_eq]; exact HM.out
  case false =>
    have HN := hid (Near.three hv h c hwd)
    have HW := hid (fun W => isWide_any c W)
    rw [hwd] at HW
    clear hwd
    go_enter Try.func60, Try.ntmps60
    go_wp2_with fail
    refine (HW.out _).mono ?_
    rintro e w1 ⟨rfl, hE1⟩
    have hE := hE0.trans hE1
    have hI1 := h.ext hE
    obtain ⟨x0, x1, x2, x3⟩ := hI1.cells
    have f1 : w1.cell? ⟨w.heap.size, 1, none⟩ = some (.int .i64 c.client) := (hE1.keeps (S := fun _ => False)).cell (fun h => h) (by simp)
    have f3 : w1.cell? ⟨w.heap.size, 3, none⟩ = some (.string c.key) := (hE1.keeps (S := fun _ => False)).cell (fun h => h) (by simp)
    have hl1 := (hI1.keys.same (w' := w1.drew) rfl).lookup keyS Try.underlying83 (zeroG _) ⟨c.key, c.hk⟩ false
    have hl2 := (hI1.clients.same (w' := w1.drew) rfl).lookup keyK Try.underlying84 (zeroG _) ⟨c.client, c.hc⟩ false
    have eg : ∀ o : Option Nat, (o.map vG).getD (.map none) = .map o := fun o => by cases o <;> rfl
    simp only [eg, Bool.false_eq_true, if_false, vS, vK] at hl1 hl2
    generalize aget s.lk ⟨c.key, c.hk⟩ = o1 at *
    generalize aget s.lc ⟨c.client, c.hc⟩ = o2 at *
    have HE := hid hE
    clear hE1 hE hE0 hI1 eg
    go_wp2_with fail
    go_region
    go_wp2
    go_ret
    refine ⟨_, _, rfl, ?_, ?_, HN.out, ((HE.out.drew).alloc _).below⟩
    · refine ⟨_, w1.heap.size, 0, 3, rfl, Nat.le_refl _, ⟨fun _ => rfl, fun _ => by simp, ?_⟩, fun h => by cases h⟩
      intro j x hj k y hy
      rcases j with _ | _ | _ | j
      · cases hj
        rcases k with _ | k
        · cases hy; simp
        · simp [encG] at hy
      · cases hj
        rcases k with _ | k
        · cases hy; simp
        · simp [encG] at hy
      · cases hj
        rcases k with _ | k
        · cases hy; simp
        · simp [encG] at hy
      · simp at hj
    · intro g hg
      cases hg
      exact HE.out.size


/-- What is known of what meets calls: J holds of what it was called with; own: the blocks that it writes, beside pb. -/
structure CB (pb : Nat) (own : World → Nat → Prop) (J : List (Id × CE) → World → Prop) : Prop where
  still : ∀ (D : List (Id × CE)) (W W' : World) (S : Nat → Prop), J D W → Keeps S W W' → ¬ S pb → (∀ g, own W g → ¬ S g) → J D W' ∧ ∀ g, own W' g → own W g
  lt : ∀ D W, J D W → (∀ g, own W g → g < W.heap.size)
/-- An entry that a command meets. -/
def GoodX (s : IxS) (c : Cmd) (but : Id) (x : Id × CE) : Prop := aget s.la x.1 = some x.2 ∧ x.1 ≠ but ∧ meetB c x.2.1 = true
structure MO (s : IxS) (c : Cmd) (but : Id) (pb : Nat) (ow : Nat → Prop) (own : World → Nat → Prop) (J : List (Id × CE) → World → Prop) (w1 wr : World) (D : List (Id × CE)) (vis : Id → Prop) : Prop where
  j : J D wr
  keeps : Keeps (fun g => g = pb ∨ ow g) w1 wr
  own : ∀ g, own wr g → ow g ∨ w1.heap.size ≤ g
  good : ∀ x ∈ D, GoodX s c but x
  vis : ∀ i e, vis i → GoodX s c but (i, e) → (i, e) ∈ D
section
variable {s : IxS} {c : Cmd} {but : Id} {pb : Nat} {ow : Nat → Prop} {own : World → Nat → Prop} {J : List (Id × CE) → World → Prop} {w1 wr wr' : World} {D : List (Id × CE)} {vis vis' : Id → Prop}
theorem MO.still (m : MO s c but pb ow own J w1 wr D vis) (cb : CB pb own J) {S : Nat → Prop} (k : Keeps S wr wr') (h1 : ¬ S pb) (h2 : ∀ g, own wr g → ¬ S g) (h3 : ∀ g, g < w1.heap.size → ¬ S g) : MO s c but pb ow own J w1 wr' D vis ∧ ∀ g, own wr' g → own wr g := by
  obtain ⟨a1, a2⟩ := cb.still D wr wr' S m.j k h1 h2
  exact ⟨⟨a1, m.keeps.trans k (fun g hg hs => absurd hs (h3 g hg)), fun g hg => m.own g (a2 g hg), m.good, m.vis⟩, a2⟩
theorem MO.see (m : MO s c but pb ow own J w1 wr D vis) (h : ∀ i e, vis' i → GoodX s c but (i, e) → vis i ∨ (i, e) ∈ D) : MO s c but pb ow own J w1 wr D vis' :=
  ⟨m.j, m.keeps, m.own, m.good, fun i e hv hg => (h i e hv hg).elim (fun h1 => m.vis i e h1 hg) id⟩
theorem MO.hit (m : MO s c but pb ow own J w1 wr D vis) {x : Id × CE} (hx : GoodX s c but x) (hj : J (D ++ [x]) wr') (k : Keeps (fun g => g = pb ∨ own wr g) wr wr') (ho : ∀ g, own wr' g → own wr g ∨ wr.heap.size ≤ g) : MO s c but pb ow own J w1 wr' (D ++ [x]) (fun i => vis i ∨ i = x.1) := by
  refine ⟨hj, m.keeps.trans k (fun g hg hs => ?_), fun g hg => ?_, fun y hy => ?_, fun i e hv hg => ?_⟩
  · rcases hs with rfl | hs
    · exact Or.inl rfl
    · rcases m.own g hs with h | h
      · exact Or.inr h
      · omega
  · rcases ho g hg with h | h
    · exact m.own g h
    · have := m.keeps.size
      exact Or.inr (by omega)
  · rcases List.mem_append.1 hy with h | h
    · exact m.good y h
    · rw [List.mem_singleton] at h
      subst h
      exact hx
  · rcases hv with hv | rfl
    · exact List.mem_append_left _ (m.vis i e hv hg)
    · have h1 := hg.1
      have h2 := hx.1
      simp only at h1
      rw [h2] at h1
      cases h1
      exact List.mem_append_right _ (by simp)
end
theorem len_sub : ∀ (l m : List Id), l.Nodup → (∀ x ∈ l, x ∈ m) → l.length ≤ m.length
  | [], m, _, _ => Nat.zero_le _
  | x :: r, m, hn, hs => by
    obtain ⟨h1, h2⟩ := List.nodup_cons.1 hn
    obtain ⟨a, t, rfl⟩ := List.append_of_mem (hs x List.mem_cons_self)
    have := len_sub r (a ++ t) h2 (fun y hy => by
      have h3 := hs y (List.mem_cons_of_mem _ hy)
      have hne : y ≠ x := fun e => h1 (e ▸ hy)
      simp only [List.mem_append, List.mem_cons] at h3 ⊢
      rcases h3 with h3 | h3 | h3
      · exact Or.inl h3
      · exact absurd h3 hne
      · exact Or.inr h3)
    simp only [List.length_append, List.length_cons] at this ⊢
    omega
theorem Ix.grp_len {w : World} {b : Nat} {s : IxS} (h : Ix w b s) (hv : Inv s) {g : Nat} (hg : g ∈ s.gs ∨ g = s.mw) : (s.grp g).length ≤ s.la.length := by
  have h1 := (h.grp_at hg).nodup
  have := len_sub ((s.grp g).map (·.1)) (s.la.map (·.1)) (List.pairwise_map.2 h1) (fun x hx => by
    obtain ⟨p, hp, rfl⟩ := List.mem_map.1 hx
    obtain ⟨e, he⟩ := hv.grp h hg p.1 (ahas_iff.2 ⟨p, hp, rfl⟩)
    exact List.mem_map.2 ⟨_, mem_of_aget he, rfl⟩)
  simpa using this

set_option maxRecDepth 100000 in
set_option maxHeartbeats 3200000 in
theorem meets_any (w : World) (b : Nat) (s : IxS) (c : Cmd) (but : Id) (h : Ix w b s) (hv : Inv s) (hk : s.lk.length ≤ 200) (hl : s.la.length ≤ 200)
    (g0 pb : Nat) (eg : ∀ args W, (callFunc g0 args).run Try.prog W = .ok (.enter g0 args) W) (own : World → Nat → Prop) (J : List (Id × CE) → World → Prop) (cb : CB pb own J) (hpb : pb < w.heap.size) (hpx : pb ∉ s.blocks b) (hox : ∀ g, own w g → g ∉ s.blocks b) (hJ : J [] w)
    (hcall : ∀ D W i e, J D W → D.length ≤ 50000 → Calls Try.prog g0 #[.agg #[.int .i64 i.r, .int .i64 i.n], vE e, .pointer (some ⟨pb, 0, none⟩)] W fun e' W' => e' = .returned (.tuple #[]) ∧ J (D ++ [(i, e)]) W' ∧ Keeps (fun g => g = pb ∨ own W g) W W' ∧ ∀ g, own W' g → own W g ∨ W.heap.size ≤ g) :
    Calls Try.prog 45 #[.pointer (some ⟨b, 0, none⟩), .agg #[.int .i64 c.kind, .int .i64 c.client, .int .i64 c.seq, .string c.key, .string c.val, .int .i64 c.rev], .agg #[.int .i64 but.r, .int .i64 but.n], .func (.func g0) #[] #[.pointer (some ⟨pb, 0, none⟩)]] w fun e w' => e = .returned (.tuple #[]) ∧ ∃ D, J D w' ∧ (∀ x, x ∈ D ↔ GoodX s c but x) ∧ D.length ≤ 50000 ∧ Keeps (fun g => g = pb ∨ own w g) w w' := by
  have hE0 : Ext w ((w.alloc (.cells #[.int .i64 c.kind, .int .i64 c.client, .int .i64 c.seq, .string c.key, .string c.val, .int .i64 c.rev] 49)).alloc (.cells #[.int .i64 but.r, .int .i64 but.n] 28)) := ((Ext.refl w).alloc _).alloc _
  have HCALL := hid hcall
  have HX := hid h
  clear hcall
  go_enter Try.func45, Try.ntmps45
  go_wp2_with fail
  refine (near_any ((w.alloc (.cells #[.int .i64 c.kind, .int .i64 c.client, .int .i64 c.seq, .string c.key, .string c.val, .int .i64 c.rev] 49)).alloc (.cells #[.int .i64 but.r, .int .i64 but.n] 28)) b s c (h.ext hE0) hv hk).mono ?_
  rintro e w1 ⟨v, L, rfl, hrd, hvb, hnear, hbn⟩
  obtain ⟨aL, gL, oL, cL, rfl, _, hrL, _⟩ := hrd
  have hb1 : Below w.heap.size w w1 := hE0.below.trans (hbn.mono (by simp; omega))
  have hI1 : Ix w1 b s := h.below hb1
  have hs1 : w.heap.size + 2 ≤ w1.heap.size := by have := hbn.size; simp at this; omega
  have b0 : w1.cell? ⟨w.heap.size, 0, none⟩ = some (.int .i64 c.kind) := by rw [hbn.cell (p := ⟨w.heap.size, 0, none⟩) (by simp <;> omega)]; simp
  have b1 : w1.cell? ⟨w.heap.size, 1, none⟩ = some (.int .i64 c.client) := by rw [hbn.cell (p := ⟨w.heap.size, 1, none⟩) (by simp <;> omega)]; simp
  have b2 : w1.cell? ⟨w.heap.size, 2, none⟩ = some (.int .i64 c.seq) := by rw [hbn.cell (p := ⟨w.heap.size, 2, none⟩) (by simp <;> omega)]; simp
  have b3 : w1.cell? ⟨w.heap.size, 3, none⟩ = some (.string c.key) := by rw [hbn.cell (p := ⟨w.heap.size, 3, none⟩) (by simp <;> omega)]; simp
  have b4 : w1.cell? ⟨w.heap.size, 4, none⟩ = some (.string c.val) := by rw [hbn.cell (p := ⟨w.heap.size, 4, none⟩) (by simp <;> omega)]; simp
  have b5 : w1.cell? ⟨w.heap.size, 5, none⟩ = some (.int .i64 c.rev) := by rw [hbn.cell (p := ⟨w.heap.size, 5, none⟩) (by simp <;> omega)]; simp
  have d0 : w1.cell? ⟨w.heap.size + 1, 0, none⟩ = some (.int .i64 but.r) := by rw [hbn.cell (p := ⟨w.heap.size + 1, 0, none⟩) (by simp <;> omega)]; simp
  have d1 : w1.cell? ⟨w.heap.size + 1, 1, none⟩ = some (.int .i64 but.n) := by rw [hbn.cell (p := ⟨w.heap.size + 1, 1, none⟩) (by simp <;> omega)]; simp
  have hold : ∀ g, own w g → g < w.heap.size := cb.lt _ _ hJ
  obtain ⟨j1, j2⟩ := cb.still [] w w1 (fun _ => False) hJ (below_keeps hb1) (fun h => h) (fun _ _ h => h)
  have HB1 := hid hb1
  have HRL := hid hrL
  have HBX := hid (And.intro (And.intro b0 (And.intro b1 b2)) (And.intro (And.intro b3 (And.intro b4 b5)) (And.intro d0 d1)))
  have hgL : L ≠ [] → w.heap.size + 2 ≤ gL ∧ gL < w1.heap.size := fun hne => by
    have h1 := hrL.some hne
    subst h1
    have := hvb gL rfl
    simp at this
    exact ⟨by omega, hrL.lt hne⟩
  clear hb1 hbn hE0 hrL hvb h b0 b1 b2 b3 b4 b5 d0 d1
  go_wp2
  go_loopw [16] (fun s16 wr => ∃ (k : Nat) (D : List (Id × CE)), k ≤ L.length ∧ s16 = .int .i64 k ∧ D.length ≤ k * 200 ∧ Hid (MO s c but pb (own w) own J w1 wr D (fun i => ∃ g, some g ∈ L.take k ∧ ahas (s.grp g) i = true))) (fun s16 _ => L.length - (intOf s16).toNat)
  case atStart => exact ⟨0, [], Nat.zero_le _, rfl, by simp, ⟨j1, Keeps.refl _ _, fun g hg => Or.inl (j2 g hg), fun x hx => (List.not_mem_nil hx).elim, fun i e hv _ => by obtain ⟨g, hg, _⟩ := hv; simp at hg⟩⟩
  case round =>
    obtain ⟨k, D, hkl, rfl, hDl, HM⟩ := hrel
    have hL3 := hnear.len
    have hwr := HM.out.keeps.size
    by_cases hlt : k < L.length
    · have hx := HRL.out.index (P := Try.prog) Try.underlying101 sizeG hlt cL
      have hgLk := hgL (by intro e; subst e; simp at hlt)
      have hget : L[k]? = some L[k] := by simp [hlt]
      have hcell : wr.cell? ⟨gL, oL + k * 1, none⟩ = some (.map L[k]) := by
        have h1 := HRL.out.keeps (S := fun g => g = pb ∨ own w g) HM.out.keeps (fun _ hh => by
          rcases hh with hh | hh
          · omega
          · have := hold _ hh; omega)
        exact h1.cells k L[k] hget 0 _ rfl
      rw [Nat.mul_one] at hcell
      have htk : L.take (k + 1) = L.take k ++ [L[k]] := List.take_succ_eq_append_getElem hlt
      have hmem : L[k] ∈ L := List.getElem_mem hlt
      have hIr : Ix wr b s := hI1.keeps HM.out.keeps (fun g hg hh => by
        rcases hh with hh | hh
        · exact hpx (hh ▸ hg)
        · exact hox g hh hg)
      generalize L[k] = ok at *
      cases ok with
      | none =>
        have HM2 : Hid (MO s c but pb (own w) own J w1 (wr.alloc (.mapIter none 0 #[] 0)) D (fun i => ∃ g, some g ∈ L.take (k + 1) ∧ ahas (s.grp g) i = true)) := by
          have h1 := (HM.out.still cb (((Ext.refl wr).alloc (.mapIter none 0 #[] 0)).keeps (S := fun _ => False)) (fun h => h) (fun _ _ h => h) (fun _ _ h => h)).1
          refine h1.see (fun i e hv _ => Or.inl ?_)
          obtain ⟨g, hg, ha⟩ := hv
          rw [htk] at hg
          simp only [List.mem_append, List.mem_singleton] at hg
          rcases hg with hg | hg
          · exact ⟨g, hg, ha⟩
          · cases hg
        have hr := fun W => run_range_nilMap W 86 _ _ Try.underlying86
        have hn := fun ty => run_next_nilMap (P := Try.prog) wr ty 0 0 #[]
        clear hIr htk hmem hgLk
        go_wp2
        refine wp_loop_rounds 1 ?_
        rw [rounds_succ]
        go_wp2
        go_roundw
        case rel => exact ⟨k + 1, D, by omega, by go_num, by omega, HM2.out⟩
        case measure => simp [intOf]; omega
      | some g =>
        have hgg := hnear.grp g hmem
        have hGm := hIr.grp_at hgg
        have hGl := hIr.grp_len hv hgg
        have hGi : ∀ i, ahas (s.grp g) i = true → ∃ e, aget s.la i = some e := fun i hi => hv.grp hIr hgg i hi
        have hgb : g ∈ s.blocks b := by
          rcases hgg with h0 | rfl
          · simp [IxS.blocks, h0]
          · simp [IxS.blocks]
        have hg1 : g < w1.heap.size := hI1.lt g hgb
        have hgp : ¬ (g = pb ∨ own w g) := fun hh => by
          rcases hh with hh | hh
          · exact hpx (hh ▸ hgb)
          · exact hox g hh hgb
        obtain ⟨ob, hr, hR⟩ := hGm.range (P := Try.prog) Try.underlying86
        generalize hlg : s.grp g = lg at *
        have HLG := hid hlg
        have HTK := hid htk
        have HGI := hid hGi
        have HIR := hid hIr
        have hM0 := HM.out.still cb (((Ext.refl wr).alloc ob).keeps (S := fun _ => False)) (fun h => h) (fun _ _ h => h) (fun _ _ h => h)
        have HM0 := hid hM0.1
        have HO0 : Hid (∀ g', own (wr.alloc ob) g' → g' ≠ wr.heap.size) := fun g' hg' e0 => by
          have := cb.lt _ _ HM.out.j g' (hM0.2 g' hg')
          omega
        clear hIr htk hmem hgLk hGi hlg hGm hM0
        go_wp2
        obtain ⟨w0, hw0⟩ : ∃ w0 : World, w0 = wr := ⟨_, rfl⟩
        rw [← hw0] at HM hwr hr hR HM0 HO0 HIR
        have HW0 := hid hw0
        simp only [← hw0]
        clear hw0
        go_loopw [10] (fun s10 wi => ∃ left done D', Rng vId vT wi g w0.heap.size lg left ∧ (done ++ left).Perm lg ∧ D'.length ≤ D.length + done.length ∧ Hid (MO s c but pb (own w) own J w1 wi D' (fun i => (∃ g, some g ∈ L.take k ∧ ahas (s.grp g) i = true) ∨ ahas done i = true)) ∧ Hid (∀ g', own wi g' → g' ≠ w0.heap.size)) (fun _ wi => rngLeft wi g w0.heap.size)
        case atStart =>
          refine ⟨lg, [], D, hR, List.Perm.refl _, by simp, HM0.out.see (fun i e hv _ => Or.inl ?_), HO0.out⟩
          rcases hv with hv | hv
          · exact hv
          · simp [ahas] at hv
        case round =>
          obtain ⟨left, done, D', hRl, hp, hD', HMI, HOI⟩ := hrel
          have HL := hid hRl.left_eq
          have hrlt := hRl.lt
          have hlen := hp.length_eq
          rw [List.length_append] at hlen
          have hwi := HMI.out.keeps.size
          rcases hRl.next (P := Try.prog) with ⟨h0, hn⟩ | ⟨a, p, cs, w', hl', hn, hR', ⟨w2, o1, hw2, hw'⟩, he⟩
          · subst h0
            rw [List.append_nil] at hp
            have HM2 : Hid (MO s c but pb (own w) own J w1 wr D' (fun i => ∃ g, some g ∈ L.take (k + 1) ∧ ahas (s.grp g) i = true)) := by
              refine HMI.out.see (fun i e hv _ => Or.inl ?_)
              obtain ⟨g', hg', ha⟩ := hv
              rw [HTK.out] at hg'
              simp only [List.mem_append, List.mem_singleton, Option.some.injEq] at hg'
              rcases hg' with hg' | rfl
              · exact Or.inl ⟨g', hg', ha⟩
              · right
                rw [HLG.out, ahas_iff] at ha
                obtain ⟨q, hq, hqi⟩ := ha
                exact ahas_iff.2 ⟨q, hp.mem_iff.2 hq, hqi⟩
            clear hRl
            go_wp2
            go_roundw
            case rel => exact ⟨k + 1, D', by omega, by go_num, by simp at hlen; omega, HM2.out⟩
            case measure => simp [intOf]; omega
          · rw [hl'] at hp hlen
            have hp' : ((done ++ [p]) ++ (a ++ cs)).Perm lg := by
              refine List.Perm.trans ?_ hp
              rw [List.append_assoc]
              exact List.Perm.append_left _ (by simpa using List.perm_middle.symm)
            have hm' : rngLeft w' g w0.heap.size < rngLeft wr g w0.heap.size := by
              rw [hR'.left_eq, HL.out, hl']
              simp
            have hKn : Keeps (· = w0.heap.size) wr w' := by
              rw [hw']
              rcases hw2 with rfl | rfl
              · exact (Keeps.refl (· = w0.heap.size) _).setBlock (fun _ => rfl) _
              · exact ((Keeps.refl (· = w0.heap.size) _).drew).setBlock (fun _ => rfl) _
            have hMn := HMI.out.still cb hKn (fun e0 => by omega) HOI.out (fun g' hg' e0 => by omega)
            have hIw : Ix w' b s := hI1.keeps hMn.1.keeps (fun g' hg' hh => by
              rcases hh with hh | hh
              · exact hpx (hh ▸ hg')
              · exact hox g' hh hg')
            have hpl : p ∈ lg := hp.mem_iff.1 (by simp)
            obtain ⟨e, hpe⟩ := HGI.out p.1 (ahas_iff.2 ⟨p, hpl, rfl⟩)
            have hHB := HBX.out
            have hl1 := (hIw.all.same (w' := ((w'.alloc (.cells #[.int .i64 p.1.r, .int .i64 p.1.n] 28)).alloc (.cells #[.int .i64 0, .int .i64 0, .int .i64 0, .string ⟨#[]⟩, .string ⟨#[]⟩, .int .i64 0, .int .i64 0] 90)).drew) ((((Ext.refl w').alloc _).alloc _).drew.block _ hIw.all.lt)).lookup keyId Try.underlying82 (zeroE _) p.1 false
            have hl2 := (hIw.all.same (w' := (w'.alloc (.cells #[.int .i64 p.1.r, .int .i64 p.1.n] 28)).drew) (((Ext.refl w').alloc _).drew.block _ hIw.all.lt)).lookup keyId Try.underlying82 (zeroE _) p.1 false
            rw [hpe] at hl1 hl2
            simp only [Option.map_some, Option.getD_some, Bool.false_eq_true, if_false, vE, vId] at hl1 hl2
            obtain ⟨x0, _, _, _⟩ := hIw.cells
            have hbw := hIw.lt b (by simp [IxS.blocks])
            have hE3 : Ext w' ((w'.alloc (.cells #[.int .i64 p.1.r, .int .i64 p.1.n] 28)).alloc (.cells #[.int .i64 e.1.kind, .int .i64 e.1.client, .int .i64 e.1.seq, .string e.1.key, .string e.1.val, .int .i64 e.1.rev, .int .i64 e.2] 90)).drew := (((Ext.refl w').alloc _).alloc _).drew
            have hM3 := hMn.1.still cb (hE3.keeps (S := fun _ => False)) (fun h => h) (fun _ _ h => h) (fun _ _ h => h)
            have HM3 := hid hM3.1
            have HO3 : Hid (∀ g', own ((w'.alloc (.cells #[.int .i64 p.1.r, .int .i64 p.1.n] 28)).alloc (.cells #[.int .i64 e.1.kind, .int .i64 e.1.client, .int .i64 e.1.seq, .string e.1.key, .string e.1.val, .int .i64 e.1.rev, .int .i64 e.2] 90)).drew g' → g' ≠ w0.heap.size) := fun g' hg' => HOI.out g' (hMn.2 g' (hM3.2 g' hg'))
            have HR3 := hid (hR'.same (hE3.block _ hR'.map.lt) (hE3.block _ hR'.lt))
            have HM := hid hm'
            have HLF := hid hl'
            have HRL' := hid hR'.left_eq
            simp only [vId, vT] at hn he
            clear hw2 hw' hKn hMn hIw hRl hm' hl' hM3 hp hHB hE3
            go_wp2_with fail
            go_region
            all_goals
              clear hl1 hl2 x0 hn he hR'
              obtain ⟨w3, hw3⟩ : ∃ w3 : World, w3 = ((w'.alloc (.cells #[.int .i64 p.1.r, .int .i64 p.1.n] 28)).alloc (.cells #[.int .i64 e.1.kind, .int .i64 e.1.client, .int .i64 e.1.seq, .string e.1.key, .string e.1.val, .int .i64 e.1.rev, .int .i64 e.2] 90)).drew := ⟨_, rfl⟩
              have hs3 : w3.heap.size = w'.heap.size + 2 := by rw [hw3]; simp
              have q0 : w3.cell? ⟨w'.heap.size, 0, none⟩ = some (.int .i64 p.1.r) := by rw [hw3]; simp
              have q1 : w3.cell? ⟨w'.heap.size, 1, none⟩ = some (.int .i64 p.1.n) := by rw [hw3]; simp
              have e0 : w3.cell? ⟨w'.heap.size + 1, 0, none⟩ = some (.int .i64 e.1.kind) := by rw [hw3]; simp
              have e1 : w3.cell? ⟨w'.heap.size + 1, 1, none⟩ = some (.int .i64 e.1.client) := by rw [hw3]; simp
              have e2 : w3.cell? ⟨w'.heap.size + 1, 2, none⟩ = some (.int .i64 e.1.seq) := by rw [hw3]; simp
              have e3 : w3.cell? ⟨w'.heap.size + 1, 3, none⟩ = some (.string e.1.key) := by rw [hw3]; simp
              have e4 : w3.cell? ⟨w'.heap.size + 1, 4, none⟩ = some (.string e.1.val) := by rw [hw3]; simp
              have e5 : w3.cell? ⟨w'.heap.size + 1, 5, none⟩ = some (.int .i64 e.1.rev) := by rw [hw3]; simp
              have e6 : w3.cell? ⟨w'.heap.size + 1, 6, none⟩ = some (.int .i64 e.2) := by rw [hw3]; simp
              rw [← hw3] at HM3 HO3 HR3
              rw [← hw3]
              clear hw3
              have hw13 := HM3.out.keeps.size
              have kc : ∀ g', w.heap.size ≤ g' → ¬ (g' = pb ∨ own w g') := fun g' hg' hh => by
                rcases hh with hh | hh
                · omega
                · have := hold _ hh; omega
              obtain ⟨⟨b0, b1, b2⟩, ⟨b3, b4, b5⟩, d0, d1⟩ := HBX.out
              replace b0 := HM3.out.keeps.cell (kc _ (Nat.le_refl _)) b0
              replace b1 := HM3.out.keeps.cell (kc _ (Nat.le_refl _)) b1
              replace b2 := HM3.out.keeps.cell (kc _ (Nat.le_refl _)) b2
              replace b3 := HM3.out.keeps.cell (kc _ (Nat.le_refl _)) b3
              replace b4 := HM3.out.keeps.cell (kc _ (Nat.le_refl _)) b4
              replace b5 := HM3.out.keeps.cell (kc _ (Nat.le_refl _)) b5
              replace d0 := HM3.out.keeps.cell (kc _ (by omega)) d0
              replace d1 := HM3.out.keeps.cell (kc _ (by omega)) d1
              have hne := run_neq_id p.1 but
              by_cases hpb2 : p.1 = but
              · have hd : decide (p.1 = but) = true := by simpa using hpb2
                rw [hd] at hne
                have HS : Hid (∀ i e', ((∃ g, some g ∈ L.take k ∧ ahas (s.grp g) i = true) ∨ ahas (done ++ [p]) i = true) → GoodX s c but (i, e') → ((∃ g, some g ∈ L.take k ∧ ahas (s.grp g) i = true) ∨ ahas done i = true) ∨ (i, e') ∈ D') := fun i e' hv hg => by
                  rcases hv with hv | hv
                  · exact Or.inl (Or.inl hv)
                  · obtain ⟨q, hq, hqi⟩ := ahas_iff.1 hv
                    rcases List.mem_append.1 hq with hq | hq
                    · exact Or.inl (Or.inr (ahas_iff.2 ⟨q, hq, hqi⟩))
                    · rw [List.mem_singleton] at hq
                      subst hq
                      exact absurd (hqi.symm.trans hpb2) hg.2.1
                have hm4 := HM3.out.see HS.out
                have HM4 := hid hm4
                clear hpb2 hd HS hm4
                go_wp2_with fail
                go_roundw
                case rel => exact ⟨_, done ++ [p], D', HR3.out, hp', by simp; omega, HM4.out, HO3.out⟩
                case measure => rw [HR3.out.left_eq, HL.out, HLF.out]; simp
              · have hd : decide (p.1 = but) = false := by simpa using hpb2
                rw [hd] at hne
                have hMe := fun W => Meet_any c e.1 W
                cases hmt : meetB c e.1
                case false =>
                  rw [hmt] at hMe
                  have HS : Hid (∀ i e', ((∃ g, some g ∈ L.take k ∧ ahas (s.grp g) i = true) ∨ ahas (done ++ [p]) i = true) → GoodX s c but (i, e') → ((∃ g, some g ∈ L.take k ∧ ahas (s.grp g) i = true) ∨ ahas done i = true) ∨ (i, e') ∈ D') := fun i e' hv hg => by
                    rcases hv with hv | hv
                    · exact Or.inl (Or.inl hv)
                    · obtain ⟨q, hq, hqi⟩ := ahas_iff.1 hv
                      rcases List.mem_append.1 hq with hq | hq
                      · exact Or.inl (Or.inr (ahas_iff.2 ⟨q, hq, hqi⟩))
                      · rw [List.mem_singleton] at hq
                        subst hq
                        have h1 := hg.1
                        simp only at h1
                        rw [← hqi, hpe] at h1
                        cases h1
                        have := hg.2.2
                        rw [hmt] at this
                        cases this
                  have hm4 := HM3.out.see HS.out
                  have HM4 := hid hm4
                  have HME := hid hMe
                  clear hpb2 hd HS hm4 hMe hmt
                  go_wp2_with fail
                  refine (HME.out _).mono ?_
                  rintro e' w4 ⟨rfl, hE4⟩
                  have hm5 := HM4.out.still cb (hE4.keeps (S := fun _ => False)) (fun h => h) (fun _ _ h => h) (fun _ _ h => h)
                  have HM5 := hid hm5.1
                  have HO5 : Hid (∀ g', own w4 g' → g' ≠ w0.heap.size) := fun g' hg' => HO3.out g' (hm5.2 g' hg')
                  have HR5 := hid (HR3.out.same (hE4.block _ HR3.out.map.lt) (hE4.block _ HR3.out.lt))
                  clear hm5 hE4 HM4 b0 b1 b2 b3 b4 b5 d0 d1 q0 q1 e0 e1 e2 e3 e4 e5 e6
                  go_wp2_with fail
                  go_roundw
                  case rel => exact ⟨_, done ++ [p], D', HR5.out, hp', by simp; omega, HM5.out, HO5.out⟩
                  case measure => rw [HR5.out.left_eq, HL.out, HLF.out]; simp
                case true =>
                  rw [hmt] at hMe
                  have HG : Hid (GoodX s c but (p.1, e)) := ⟨hpe, hpb2, hmt⟩
                  have HME := hid hMe
                  clear hpb2 hd hMe hmt
                  go_wp2_with fail
                  refine (HME.out _).mono ?_
                  rintro e' w4 ⟨rfl, hE4⟩
                  have hm5 := HM3.out.still cb (hE4.keeps (S := fun _ => False)) (fun h => h) (fun _ _ h => h) (fun _ _ h => h)
                  have HM5 := hid hm5.1
                  have HO5 : Hid (∀ g', own w4 g' → g' ≠ w0.heap.size) := fun g' hg' => HO3.out g' (hm5.2 g' hg')
                  have HR5 := hid (HR3.out.same (hE4.block _ HR3.out.map.lt) (hE4.block _ HR3.out.lt))
                  replace q0 := (hE4.keeps (S := fun _ => False)).cell (fun h => h) q0
                  replace q1 := (hE4.keeps (S := fun _ => False)).cell (fun h => h) q1
                  replace e0 := (hE4.keeps (S := fun _ => False)).cell (fun h => h) e0
                  replace e1 := (hE4.keeps (S := fun _ => False)).cell (fun h => h) e1
                  replace e2 := (hE4.keeps (S := fun _ => False)).cell (fun h => h) e2
                  replace e3 := (hE4.keeps (S := fun _ => False)).cell (fun h => h) e3
                  replace e4 := (hE4.keeps (S := fun _ => False)).cell (fun h => h) e4
                  replace e5 := (hE4.keeps (S := fun _ => False)).cell (fun h => h) e5
                  replace e6 := (hE4.keeps (S := fun _ => False)).cell (fun h => h) e6
                  have hs4 := hE4.size
                  clear hm5 hE4 b0 b1 b2 b3 b4 b5 d0 d1
                  go_wp2_with fail
                  refine (HCALL.out D' w4 p.1 e HM5.out.j (by omega)).mono ?_
                  rintro e' w5 ⟨rfl, hj6, hk6, ho6⟩
                  have hm6 := HM5.out.hit HG.out hj6 hk6 ho6
                  have HM6 : Hid (MO s c but pb (own w) own J w1 w5 (D' ++ [(p.1, e)]) (fun i => (∃ g, some g ∈ L.take k ∧ ahas (s.grp g) i = true) ∨ ahas (done ++ [p]) i = true)) := by
                    refine hm6.see (fun i e' hv _ => Or.inl ?_)
                    rcases hv with hv | hv
                    · exact Or.inl (Or.inl hv)
                    · obtain ⟨q, hq, hqi⟩ := ahas_iff.1 hv
                      rcases List.mem_append.1 hq with hq | hq
                      · exact Or.inl (Or.inr (ahas_iff.2 ⟨q, hq, hqi⟩))
                      · rw [List.mem_singleton] at hq
                        subst hq
                        exact Or.inr hqi.symm
                  have HO6 : Hid (∀ g', own w5 g' → g' ≠ w0.heap.size) := fun g' hg' e0 => by
                    rcases ho6 g' hg' with h0 | h0
                    · exact HO5.out g' h0 e0
                    · have := HR5.out.lt
                      omega
                  have HR6 : Hid (Rng vId vT w5 g w0.heap.size lg (a ++ cs)) := HR5.out.same (hk6.block _ HR5.out.map.lt (fun hh => by
                      rcases hh with hh | hh
                      · exact hgp (Or.inl hh)
                      · rcases HM5.out.own g hh with h0 | h0
                        · exact hgp (Or.inr h0)
                        · omega)) (hk6.block _ HR5.out.lt (fun hh => by
                      rcases hh with hh | hh
                      · omega
                      · exact HO5.out _ hh rfl))
                  clear hj6 hk6 ho6 hm6 q0 q1 e0 e1 e2 e3 e4 e5 e6
                  go_wp2_with fail
                  go_roundw
                  case rel => exact ⟨_, done ++ [p], D' ++ [(p.1, e)], HR6.out, hp', by simp; omega, HM6.out, HO6.out⟩
                  case measure => rw [HR6.out.left_eq, HL.out, HLF.out]; simp
    · have hk' : L.take k = L := List.take_of_length_le (by omega)
      rw [hk'] at HM
      go_wp2
      go_end0
      refine ⟨rfl, D, HM.out.j, fun x => ⟨fun hx => HM.out.good x hx, fun hx => ?_⟩, by omega, (below_keeps (S := fun g => g = pb ∨ own w g) HB1.out).trans HM.out.keeps (fun _ _ h => h)⟩
      obtain ⟨g, hg, ha⟩ := hnear.all x.1 x.2 hx.1 hx.2.2
      exact HM.out.vis x.1 x.2 ⟨g, hg, ha⟩ hx

end Go.Proofs.Ytlepfohhfngndaa
