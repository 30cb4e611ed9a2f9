/- Slices of bytes: rows that the call owns, of which a slice may show a part; append; slices.Clone; the document's Same. -/
import Derived.Test.YtopabknlgmihpaaDBase
import Derived.Deep.AppendSrc
import Derived.Laws.IdiomCopy
import Derived.Lib.SliceRun
import Derived.Maps.AppendAt
namespace Go.Proofs.Ytopabknlgmihpaa
open Go Go.RowKit Go.MapKept Go.ChangeMaps Go.Maps

def vB (x : UInt8) : Value := .int .u8 x.toNat
def encB (x : UInt8) : List Value := [vB x]
theorem encB_len (x : UInt8) : (encB x).length = 1 := rfl
theorem flatB (l : List UInt8) : l.flatMap encB = l.map vB := by
  induction l with
  | nil => rfl
  | cons a r ih => rw [List.flatMap_cons, ih]; rfl
theorem vB_inj {x y : UInt8} (h : vB x = vB y) : x = y := by
  unfold vB at h
  simp at h
  exact UInt8.toNat_inj.1 (by omega)
theorem sizeB : ∀ W, (sizeOf 5).run Try.prog W = .ok 1 W := fun W => by kernel_rfl
theorem infoB : (Try.prog.info? 5).map (fun i => (i.zero, i.size, i.bytes)) = some (some (.int .u8 0), 1, 1) := by kernel_rfl
theorem oneB : ∀ x : UInt8, ∀ u ∈ encB x, u.oneCell' = true := fun x u hu => by simp [encB] at hu; subst hu; rfl
theorem oneBs (l : List UInt8) : ∀ u ∈ l.map vB, u.oneCell' = true := fun u hu => by
  obtain ⟨x, _, rfl⟩ := List.mem_map.1 hu
  rfl
theorem elemB : ElemT Try.prog 22 5 encB 1 1 := by
  obtain ⟨i, hi, hz0, hz1, hz2⟩ := info_parts infoB
  exact ⟨Try.underlying22, ⟨i, _, hi, hz0, hz1, hz2, rfl⟩, encB_len, by omega, oneB, by omega⟩

/-- The value is a slice that lies at a row's head, in a block that the call made; it shows bs. -/
def OwnB (w : World) (v : Value) (bs : List UInt8) : Prop :=
  (v = .slice none 0 0 ∧ bs = []) ∨ ∃ g cap cur, v = .slice (some ⟨g, 0, none⟩) bs.length cap ∧ w.heap[g]? = some (.cells cur 5 (0, 0)) ∧ bs.length ≤ cap ∧ cap ≤ maxLen ∧ cap ≤ cur.size ∧ cur.toList.take bs.length = bs.map vB
section
variable {w w' : World} {v : Value} {bs : List UInt8}
theorem OwnB.nil (w : World) : OwnB w (.slice none 0 0) [] := Or.inl ⟨rfl, rfl⟩
theorem OwnB.same (h : OwnB w v bs) (k : ∀ g, v.ownBlock = some g → w'.heap[g]? = w.heap[g]?) : OwnB w' v bs := by
  rcases h with h | ⟨g, cap, cur, rfl, hg, hr⟩
  · exact Or.inl h
  · exact Or.inr ⟨g, cap, cur, rfl, (k g rfl).trans hg, hr⟩
theorem OwnB.lt (h : OwnB w v bs) : ∀ g, v.ownBlock = some g → g < w.heap.size := by
  rcases h with ⟨rfl, _⟩ | ⟨g, cap, cur, rfl, hg, hr⟩
  · intro g hg; cases hg
  · intro g' hg'; cases hg'; exact (Array.getElem?_eq_some_iff.1 hg).1
theorem OwnB.len (h : OwnB w v bs) : bs.length ≤ maxLen := by
  rcases h with ⟨_, rfl⟩ | ⟨g, cap, cur, rfl, hg, h1, h2, _⟩
  · simp
  · omega
theorem OwnB.below (h : OwnB w v bs) (k : Below w.heap.size w w') : OwnB w' v bs := h.same fun g hg => k.block g (h.lt g hg)
theorem OwnB.ext (h : OwnB w v bs) (k : Ext w w') : OwnB w' v bs := h.below k.below
theorem OwnB.keeps {S : Nat → Prop} (h : OwnB w v bs) (k : Keeps S w w') (hS : ∀ g, v.ownBlock = some g → ¬ S g) : OwnB w' v bs := h.same fun g hg => k.block g (h.lt g hg) (hS g hg)
theorem OwnB.of_owns {base : Nat} (h : Owns base 5 encB 1 w v bs) : OwnB w v bs := by
  rcases h.2 with ⟨rfl, h0⟩ | ⟨g, cap, cur, rfl, _, hg, h1, h2, h3, h4⟩
  · exact Or.inl ⟨rfl, List.eq_nil_of_length_eq_zero h0⟩
  · refine Or.inr ⟨g, cap, cur, rfl, hg, h1, h2, by omega, ?_⟩
    rw [flatB, Nat.mul_one] at h4
    exact h4
theorem OwnB.rd (h : OwnB w v bs) : Rd encB 1 w v bs := by
  rcases h with ⟨rfl, rfl⟩ | ⟨g, cap, cur, rfl, hg, hc, _, _, ht⟩
  · exact Rd.nil
  · refine ⟨some ⟨g, 0, none⟩, g, 0, cap, rfl, hc, ⟨fun _ => rfl, fun _ => (Array.getElem?_eq_some_iff.1 hg).1, fun i x hx j y hy => ?_⟩, fun h0 => by cases h0⟩
    have hi : i < bs.length := (List.getElem?_eq_some_iff.1 hx).1
    have hj : j = 0 := by
      have := (List.getElem?_eq_some_iff.1 hy).1
      simp [encB] at this
      exact this
    subst hj
    simp [encB] at hy
    subst hy
    have h2 : (bs.map vB)[i]? = cur.toList[i]? := by
      rw [← ht, List.getElem?_take, if_pos hi]
    rw [List.getElem?_map, hx] at h2
    simp only [World.cell?, hg, Nat.zero_add, Nat.mul_one, Nat.add_zero, Option.isSome_none, Bool.false_eq_true, if_false]
    simpa using h2.symm
/-- What an append takes its bytes out of. -/
theorem Src.ofRd {a : Option Addr} {g off cap : Nat} {l : List UInt8} (h : RdS encB 1 w a g off l) : Src Try.prog 1 22 (.slice a l.length cap) l.length (l.map vB) w := by
  cases a with
  | none =>
    have h0 : l = [] := by
      by_cases hl : l = []
      · exact hl
      · cases h.some hl
    subst h0
    exact Src.ofNil w Try.underlying22 cap
  | some ad =>
    refine Src.ofSlice w Try.underlying22 ad l.length cap (l.map vB) (by simp) (fun j u hu => ?_) (oneBs l)
    have hne : l ≠ [] := by intro e; subst e; simp at hu
    have ha := h.some hne
    simp only [Option.some.injEq] at ha
    subst ha
    rw [List.getElem?_map] at hu
    cases hx : l[j]? with
    | none => rw [hx] at hu; cases hu
    | some x =>
      rw [hx] at hu
      simp only [Option.map_some, Option.some.injEq] at hu
      subst hu
      have := h.cells j x hx 0 (vB x) rfl
      rw [add_lit]
      simpa using this
theorem setCells_heap (b : Nat) : ∀ (vs : List Value) (o : Nat) (w : World) (cur : Array Value) (e : TypeId) (fz : Nat × Nat), w.heap[b]? = some (.cells cur e fz) → o + vs.length ≤ cur.size →
    ∃ cur', (w.setCells b o vs).heap[b]? = some (.cells cur' e fz) ∧ cur'.size = cur.size ∧ cur'.toList = cur.toList.take o ++ vs ++ cur.toList.drop (o + vs.length)
  | [], o, w, cur, e, fz, h, hl => ⟨cur, h, rfl, by simp⟩
  | v :: r, o, w, cur, e, fz, h, hl => by
    simp only [List.length_cons] at hl
    have h1 : (w.setCell ⟨b, o, none⟩ v).heap[b]? = some (.cells (cur.setIfInBounds o v) e fz) := by
      simp [World.setCell, Array.getElem?_modify, h]
    obtain ⟨cur', h2, h3, h4⟩ := setCells_heap b r (o + 1) _ _ e fz h1 (by simp; omega)
    refine ⟨cur', h2, by simpa using h3, ?_⟩
    rw [h4]
    apply List.ext_getElem?
    intro i
    simp only [Array.toList_setIfInBounds, List.length_cons, List.getElem?_append, List.getElem?_take, List.getElem?_drop, List.getElem?_set, List.length_append, List.length_take, List.length_set, Array.length_toList, List.getElem?_cons]
    have ho : o < cur.size := by omega
    by_cases c1 : i < o
    · simp [c1, ho, show i < o + 1 by omega, show o ≠ i by omega, show min o cur.size = o by omega, show min (o + 1) cur.size = o + 1 by omega, show i < o + (r.length + 1) by omega, show i < o + 1 + r.length by omega]
    · by_cases c2 : i = o
      · subst c2
        simp [ho, show min i cur.size = i by omega, show min (i + 1) cur.size = i + 1 by omega]
        omega
      · by_cases c3 : i < o + 1 + r.length
        · simp [show min o cur.size = o by omega, show min (o + 1) cur.size = o + 1 by omega, c3, show ¬ i < o + 1 by omega, show ¬ i < o by omega, show i < o + (r.length + 1) by omega, show i - o ≠ 0 by omega]
          congr 1
        · simp [show min o cur.size = o by omega, show min (o + 1) cur.size = o + 1 by omega, c3, show ¬ i < o + 1 by omega, show ¬ i < o by omega, show ¬ i < o + (r.length + 1) by omega]
          rw [if_neg (by omega)]
          congr 1
          omega
theorem setCells_other (b : Nat) : ∀ (vs : List Value) (o : Nat) (w : World) (i : Nat), i ≠ b → (w.setCells b o vs).heap[i]? = w.heap[i]?
  | [], _, _, _, _ => rfl
  | v :: r, o, w, i, h => by
    rw [World.setCells, setCells_other b r (o + 1) _ i h]
    exact Below.heap_setCell w ⟨b, o, none⟩ v i h
theorem setCells_still (b : Nat) : ∀ (vs : List Value) (o : Nat) (w : World), (w.setCells b o vs).os = w.os ∧ (w.setCells b o vs).tape = w.tape ∧ (w.setCells b o vs).output = w.output ∧ (w.setCells b o vs).heap.size = w.heap.size
  | [], _, _ => ⟨rfl, rfl, rfl, rfl⟩
  | v :: r, o, w => by
    obtain ⟨h1, h2, h3, h4⟩ := setCells_still b r (o + 1) (w.setCell ⟨b, o, none⟩ v)
    exact ⟨h1, h2, h3, h4.trans (by simp [World.setCell])⟩

/-- append(s, ..): a row that the call made, whatever is appended. -/
theorem run_append_B (w : World) (v : Value) (bs ns : List UInt8) (h : OwnB w v bs) (x : Value) (ty : TypeId) (hs : Src Try.prog 1 22 x ns.length (ns.map vB) w) (hlen : bs.length + ns.length ≤ 70368744177664) :
    ∃ v' w', (Builtin.append_ #[22, 22] ty #[v, x]).run Try.prog w = .ok v' w' ∧ OwnB w' v' (bs ++ ns) ∧ w.grownBy w' v.ownBlock ∧ (v'.ownBlock = v.ownBlock ∨ v'.ownBlock = some w.heap.size) := by
  obtain ⟨i, z, hi, hz, hsz, hby, hzs⟩ := elemB.info
  have grown : ∀ (old : Nat) (base : Option Addr), old < bs.length + ns.length → (Builtin.firstCells 1 bs.length (.slice base bs.length old)).run Try.prog w.drew = .ok (bs.map vB).toArray w.drew → ∀ row,
      ∃ v' w', (Builtin.append_ #[22, 22] ty #[.slice base bs.length old, x]).run Try.prog w = .ok v' w' ∧ OwnB w' v' (bs ++ ns) ∧ w.grownBy w' row ∧ v'.ownBlock = some w.heap.size := by
    intro old base ho hold row
    have hfit := growslice_fits (need := bs.length + ns.length) (old := old) (bytes := 1) (by omega) (by omega)
    have hr := run_append_grow_src (P := Try.prog) w 22 22 ty 5 i z Try.underlying22 hi hz base bs.length old (bs.map vB) (by rw [hsz]; exact hold) x ns.length (ns.map vB) (by rw [hsz]; exact hs) (by omega) (by omega) (by rw [hby]; exact hfit)
    have hge := grownCap_ge w (bs.length + ns.length) old 5
    have hcm : grownCap w (bs.length + ns.length) old 5 ≤ maxLen := grownCap_le_maxLen w (bs.length + ns.length) old 5 (by unfold maxLen; omega)
    refine ⟨_, _, hr, Or.inr ⟨w.heap.size, _, _, by rw [List.length_append], heap_alloc_new w.drew _, by rw [List.length_append]; exact hge, hcm, ?_, ?_⟩, ⟨rfl, rfl, rfl, by simp, fun k hk _ => Below.heap_alloc w.drew _ k hk⟩, rfl⟩
    · simp only [Array.size_append, List.size_toArray, size_zeroCells, hzs, List.length_append, List.length_map]
      omega
    · simp only [Array.toList_append, List.length_append, List.map_append]
      rw [List.take_append_of_le_length (by simp)]
      exact List.take_of_length_le (by simp)
  rcases h with ⟨rfl, rfl⟩ | ⟨g, cap, cur, rfl, hg, hc, hcm, hcs, ht⟩
  · by_cases hn : ns = []
    · subst hn
      refine ⟨.slice none 0 0, w, ?_, Or.inl ⟨rfl, rfl⟩, ⟨rfl, rfl, rfl, Nat.le_refl _, fun _ _ _ => rfl⟩, Or.inl rfl⟩
      have hf := hs.cells
      have hl := hs.len
      simp only [List.map_nil, List.length_nil] at hf hl
      rcases hs.kind with ⟨e', hk⟩ | hk <;> simp [Builtin.append_, run_underlying Try.underlying22, sizeOf, typeInfo, hi, hsz, hl, hf]
    · have hpos : 0 < ns.length := List.length_pos_iff.2 hn
      obtain ⟨v', w', h1, h2, h3, h4⟩ := grown 0 none (by simpa using hpos) rfl (Value.ownBlock (.slice none 0 0))
      exact ⟨v', w', h1, h2, h3, Or.inr h4⟩
  · by_cases hroom : bs.length + ns.length ≤ cap
    · have hr := run_append_room_src (P := Try.prog) w 22 22 ty 5 i Try.underlying22 hi g 0 bs.length cap x ns.length (ns.map vB) (by rw [hsz]; exact hs) hroom
        (fun j hj => by
          simp at hj
          rw [hsz]
          simp only [World.cell?, hg, Nat.zero_add, Nat.mul_one, Option.isSome_none, Bool.false_eq_true, if_false]
          rw [Array.getElem?_eq_getElem (by omega)]
          rfl)
        (fun j hj => by
          simp [World.frozen?, hg])
      rw [hsz] at hr
      simp only [Nat.zero_add, Nat.mul_one] at hr
      obtain ⟨cur', k1, k2, k3⟩ := setCells_heap g (ns.map vB) bs.length w cur 5 (0, 0) hg (by simp; omega)
      obtain ⟨s1, s2, s3, s4⟩ := setCells_still g (ns.map vB) bs.length w
      refine ⟨_, _, hr, Or.inr ⟨g, cap, cur', by rw [List.length_append], k1, by rw [List.length_append]; exact hroom, hcm, by omega, ?_⟩, ⟨s1, s2, s3, by omega, fun k _ hk => setCells_other g _ _ _ _ (fun e => hk (by simp [Value.ownBlock, e]))⟩, Or.inl rfl⟩
      rw [k3, ht, List.length_append, List.map_append, List.append_assoc, ← List.append_assoc]
      rw [List.take_append_of_le_length (by simp)]
      exact List.take_of_length_le (by simp)
    · obtain ⟨v', w', h1, h2, h3, h4⟩ := grown cap (some ⟨g, 0, none⟩) (by omega) (by
        refine run_firstCells_some w.drew 1 bs.length _ bs.length cap (bs.map vB) (by simp) (fun j u hu => ?_)
        have hj : j < bs.length := by have := (List.getElem?_eq_some_iff.1 hu).1; simpa using this
        rw [← ht, List.getElem?_take, if_pos hj] at hu
        rw [add_lit]
        simp only [World.cell?, World.drew, hg, Nat.zero_add, Option.isSome_none, Bool.false_eq_true, if_false]
        simpa using hu) (Value.ownBlock (.slice (some ⟨g, 0, none⟩) bs.length cap))
      exact ⟨v', w', h1, h2, h3, Or.inr h4⟩
/-- At the operation, wherever it stands. -/
theorem wp_append_B {o : Oper} {a : Act} {K : Act → World → Prop} {Q : Exit → Act → World → Prop} (s x : Operand)
    (ho : o.op = .call { callee := .builtin .append, args := #[s, x], argTypes := #[22, 22] })
    (v : Value) (bs ns : List UInt8) (hs : a.eval s = v) (h : OwnB w v bs) (y : Value) (hx : a.eval x = y) (hsrc : Src Try.prog 1 22 y ns.length (ns.map vB) w) (hlen : bs.length + ns.length ≤ 70368744177664)
    (hq : ∀ v' w', OwnB w' v' (bs ++ ns) → w.grownBy w' v.ownBlock → (v'.ownBlock = v.ownBlock ∨ v'.ownBlock = some w.heap.size) → K (a.put o.dst v') w') : o.wp Try.prog a w K Q := by
  obtain ⟨v', w', hr, h2, h3, h4⟩ := run_append_B w v bs ns h y o.type hsrc hlen
  unfold Oper.wp execOp
  simp only [ho, resolve, invoke, builtin, Sem.run_bind, Sem.run_pure, Result.andThen_ok, List.map_toArray, List.map_cons, List.map_nil, hs, hx, hr]
  exact hq v' w' h2 h3 h4
/-- At the operation. -/
theorem wpList_append_B {ops : Array Oper} {rest : List Oper} {o : Oper} {a : Act} {Q : Exit → Act → World → Prop} (hgd : o.guard = none) (s x : Operand)
    (ho : o.op = .call { callee := .builtin .append, args := #[s, x], argTypes := #[22, 22] })
    (v : Value) (bs ns : List UInt8) (hs : a.eval s = v) (h : OwnB w v bs) (y : Value) (hx : a.eval x = y) (hsrc : Src Try.prog 1 22 y ns.length (ns.map vB) w) (hlen : bs.length + ns.length ≤ 70368744177664)
    (hq : ∀ v' w', OwnB w' v' (bs ++ ns) → w.grownBy w' v.ownBlock → (v'.ownBlock = v.ownBlock ∨ v'.ownBlock = some w.heap.size) → wpList Try.prog ops Q rest (a.put o.dst v') w') :
    wpList Try.prog ops Q (o :: rest) a w := by
  refine wpList_plain hgd fun K hK => ?_
  obtain ⟨v', w', hr, h2, h3, h4⟩ := run_append_B w v bs ns h y o.type hsrc hlen
  unfold Oper.wp execOp
  simp only [ho, resolve, invoke, builtin, Sem.run_bind, Sem.run_pure, Result.andThen_ok, List.map_toArray, List.map_cons, List.map_nil, hs, hx, hr]
  exact hK _ _ (hq v' w' h2 h3 h4)
end

set_option maxRecDepth 100000 in
set_option maxHeartbeats 800000 in
theorem CloneB_any (w : World) (a : Option Addr) (g off cap : Nat) (l : List UInt8) (h : RdS encB 1 w a g off l) (hl : l.length ≤ 70368744177664) :
    Calls Try.prog 42 #[.slice a l.length cap] w fun e w' => ∃ v, e = .returned v ∧ OwnB w' v l ∧ (∀ g, v.ownBlock = some g → w.heap.size ≤ g) ∧ Below w.heap.size w w' := by
  cases a with
  | none =>
    have h0 : l = [] := by
      by_cases hl : l = []
      · exact hl
      · cases h.some hl
    subst h0
    have hq : ∀ W, (binOp .eql 22 (.slice none 0 cap) (.slice none 0 0)).run Try.prog W = .ok (.bool true) W := fun W => Lib.run_eql_slice_nil W _ _ _ _ _ _ _ Try.underlying22
    go_enter Try.func42, Try.ntmps42
    go_wp2
    go_ret
    exact ⟨_, rfl, OwnB.nil _, (fun g hg => by cases hg), Below.refl _ _⟩
  | some ad =>
    have hq : ∀ W, (binOp .eql 22 (.slice (some ad) l.length cap) (.slice none 0 0)).run Try.prog W = .ok (.bool false) W := fun W => Lib.run_eql_slice_nil W _ _ _ _ _ _ _ Try.underlying22
    have h2 := h.below (((Ext.refl w).alloc (.cells #[] 5)).below)
    have hsrc := Src.ofRd (cap := cap) h2
    have hown : OwnB (w.alloc (.cells #[] 5)) (.slice (some ⟨w.heap.size, 0, none⟩) 0 0) [] :=
      Or.inr ⟨w.heap.size, 0, #[], rfl, heap_alloc_new w _, Nat.le_refl _, by unfold maxLen; omega, Nat.le_refl _, rfl⟩
    have HS := hid hsrc
    have HO := hid hown
    clear hsrc hown h h2
    go_enter Try.func42, Try.ntmps42
    go_wp2_with (at_builtin; go_must (refine wpList_append_B rfl _ _ rfl _ [] l rfl HO.out _ rfl HS.out (by simpa using hl) ?_))
    intro v' w' hown' hgrow hat
    have hb : RowKit.Below w.heap.size w w' := ((Ext.refl w).alloc _).below.grown hgrow (by simp) (fun g hg => by cases hg; exact Nat.le_refl _)
    have HB := hid hb
    have HO2 := hid hown'
    have HA := hid (show ∀ g, v'.ownBlock = some g → w.heap.size ≤ g from fun g hg => by
      rcases hat with h | h
      · rw [h] at hg; cases hg; exact Nat.le_refl _
      · rw [h] at hg; simp at hg; omega)
    clear hb hown' hgrow hat
    go_wp2
    go_ret
    exact ⟨_, rfl, by simpa using HO2.out, HA.out, HB.out⟩
end Go.Proofs.Ytopabknlgmihpaa
