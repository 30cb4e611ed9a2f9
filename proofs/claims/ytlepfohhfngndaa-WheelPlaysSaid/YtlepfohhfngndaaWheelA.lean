/- The wheel's functions New, Set, At, Cancel, Next, Len: what each does to the wheel's map. -/
import Derived.Test.YtlepfohhfngndaaId
import Derived.WalkSpells
import Derived.WalkLawsBesides
import Derived.RegionTactic
import Derived.ChangeAlike
import Derived.BigQuiet
import Derived.Deep.QuietTactic
import Derived.StillTailTactics
import Derived.Test.YtlepfohhfngndaaExt
namespace Go.Proofs.Ytlepfohhfngndaa
open Go Go.RowKit Go.MapKept Go.ChangeMaps Go.Maps

/-- Block b is a wheel whose map lies in block m and has the timers l. -/
structure Wheel (w : World) (b m : Nat) (l : List (Id × Int)) : Prop where
  cell : w.heap[b]? = some (.cells #[.map (some m)] 76 (0, 0))
  map : MapIs vId vInt w m l

set_option maxHeartbeats 400000 in
theorem New_any (w : World) : Calls Try.prog 9 #[] w fun e w' => e = .returned (.pointer (some ⟨w.heap.size + 1, 0, none⟩)) ∧ w' = (w.alloc (.map #[] 0)).alloc (.cells #[.map (some w.heap.size)] 76) := by
  have hmm := @run_makeMap Try.prog
  go_enter Try.func9, Try.ntmps9
  go_wp2
  go_ret
  exact ⟨rfl, rfl⟩

theorem zeroInt (w : World) : (zeroValue 3).run Try.prog w = .ok (.int .i64 0) w := by kernel_rfl

def wAt (w : World) (i : Id) : World := w.alloc (.cells #[.int .i64 i.r, .int .i64 i.n] 28)
theorem wAt_ext (w : World) (i : Id) : Ext w (wAt w i) := (Ext.refl w).alloc _
theorem wAt_block (w : World) (i : Id) (k : Nat) (hk : k < w.heap.size) : (wAt w i).heap[k]? = w.heap[k]? := Below.heap_alloc _ _ _ hk

set_option maxHeartbeats 400000 in
theorem At_any (w : World) (b m : Nat) (l : List (Id × Int)) (i : Id) (h : Wheel w b m l) :
    Calls Try.prog 11 #[.pointer (some ⟨b, 0, none⟩), .agg #[.int .i64 i.r, .int .i64 i.n]] w fun e w' =>
      e = .returned (.tuple #[.int .i64 ((aget l i).getD 0), .bool (ahas l i)]) ∧ Ext w w' := by
  have hb : b < w.heap.size := (Array.getElem?_eq_some_iff.1 h.cell).1
  have hc : w.cell? ⟨b, 0, none⟩ = some (.map (some m)) := by simp [World.cell?, h.cell]
  have hl := fun W (hW : MapIs vId vInt W m l) => hW.lookup keyId Try.underlying74 (zeroInt W) i true
  have hl2 := fun n => hl ((w.alloc (.cells #[.int .i64 i.r, .int .i64 i.n] 28)).drewN n) (h.map.same (Below.heap_alloc _ _ _ h.map.lt))
  clear hl
  have e1 : ((aget l i).map vInt).getD (.int .i64 0) = .int .i64 ((aget l i).getD 0) := by cases aget l i <;> rfl
  simp only [vId, if_true, e1] at hl2
  generalize (aget l i).getD 0 = x at hl2 ⊢
  generalize ahas l i = y at hl2 ⊢
  clear e1
  go_enter Try.func11, Try.ntmps11
  go_wp2
  go_quiet (fail)
  go_wp2
  go_ret2
  exact ⟨rfl, ((Ext.refl w).alloc _).drewN _⟩

theorem Wheel.ne {w : World} {b m : Nat} {l : List (Id × Int)} (h : Wheel w b m l) : m ≠ b := by
  intro e
  obtain ⟨es, c, hh, _⟩ := h.map
  rw [e, h.cell] at hh
  cases hh
theorem Wheel.lt {w : World} {b m : Nat} {l : List (Id × Int)} (h : Wheel w b m l) : b < w.heap.size := (Array.getElem?_eq_some_iff.1 h.cell).1
theorem Wheel.kept {w w' : World} {b m : Nat} {l : List (Id × Int)} (h : Wheel w b m l) {S : Nat → Prop} (k : Keeps S w w') (h1 : ¬ S b) (h2 : ¬ S m) : Wheel w' b m l :=
  ⟨(k.block b h.lt h1).trans h.cell, h.map.same (k.block m h.map.lt h2)⟩

set_option maxHeartbeats 400000 in
theorem Set_any (w : World) (b m : Nat) (l : List (Id × Int)) (i : Id) (x : Int) (h : Wheel w b m l) :
    Calls Try.prog 12 #[.pointer (some ⟨b, 0, none⟩), .agg #[.int .i64 i.r, .int .i64 i.n], .int .i64 x] w fun e w' =>
      e = .returned (.tuple #[]) ∧ Wheel w' b m (aput l i x) ∧ Keeps (· = m) w w' := by
  have hb := h.lt
  have hc : w.cell? ⟨b, 0, none⟩ = some (.map (some m)) := by simp [World.cell?, h.cell]
  have hm : MapIs vId vInt (w.alloc (.cells #[.int .i64 i.r, .int .i64 i.n] 28)).drew m l := h.map.same (Below.heap_alloc _ _ _ h.map.lt)
  have hne := h.ne
  obtain ⟨es, c, hu, hr⟩ := hm.update keyId Try.underlying74 i x
  have hcell := h.cell
  simp only [vId, vInt] at hu
  clear h hm
  go_enter Try.func12, Try.ntmps12
  go_wp2
  go_region
  go_wp2
  go_end0
  refine ⟨rfl, ⟨?_, hr⟩, (((Keeps.refl (· = m) w).alloc _).drew).setBlock (fun _ => rfl) _⟩
  rw [setBlock_other _ _ _ hne.symm]
  exact (Below.heap_alloc _ _ _ hb).trans hcell

set_option maxHeartbeats 400000 in
theorem Cancel_any (w : World) (b m : Nat) (l : List (Id × Int)) (i : Id) (h : Wheel w b m l) :
    Calls Try.prog 14 #[.pointer (some ⟨b, 0, none⟩), .agg #[.int .i64 i.r, .int .i64 i.n]] w fun e w' =>
      e = .returned (.bool (ahas l i)) ∧ Wheel w' b m (adel l i) ∧ Keeps (· = m) w w' := by
  have hb := h.lt
  have hc : w.cell? ⟨b, 0, none⟩ = some (.map (some m)) := by simp [World.cell?, h.cell]
  have hmn : ∀ n, MapIs vId vInt ((w.alloc (.cells #[.int .i64 i.r, .int .i64 i.n] 28)).drewN n) m l := fun n => h.map.same (Below.heap_alloc _ _ _ h.map.lt)
  have hne := h.ne
  have hl2 := fun n => (hmn n).lookup keyId Try.underlying74 (zeroInt _) i true
  have hd := fun n => (hmn n).drop keyId Try.underlying74 (ty := 0) i
  have hcell := h.cell
  simp only [vId, vInt, if_true] at hl2 hd
  generalize ((aget l i).map vInt).getD (.int .i64 0) = x at hl2
  clear h hmn
  go_enter Try.func14, Try.ntmps14
  go_wp2
  go_quiet (fail)
  obtain ⟨es, c, hd1, hd2⟩ := hd (nq + 1)
  clear hd
  go_wp2
  go_region
  go_wp2
  go_ret
  refine ⟨rfl, ⟨?_, hd2⟩, (((Keeps.refl (· = m) w).alloc _).drewN _).setBlock (fun _ => rfl) _⟩
  rw [setBlock_other _ _ _ hne.symm]
  exact (Below.heap_alloc _ _ _ hb).trans hcell

set_option maxHeartbeats 400000 in
theorem Len_any (w : World) (b m : Nat) (l : List (Id × Int)) (h : Wheel w b m l) :
    Calls Try.prog 19 #[.pointer (some ⟨b, 0, none⟩)] w fun e w' => e = .returned (.int .i64 l.length) ∧ w' = w := by
  have hb := h.lt
  have hc : w.cell? ⟨b, 0, none⟩ = some (.map (some m)) := by simp [World.cell?, h.cell]
  have hl := fun W (hW : MapIs vId vInt W m l) => hW.len ⟨_, _, Try.underlying74⟩ 3
  have hl1 := hl w h.map
  clear hl
  generalize l.length = n at hl1 ⊢
  go_enter Try.func19, Try.ntmps19
  go_wp2
  go_ret
  exact ⟨rfl, rfl⟩

/-- The least of the ticks. -/
def leastOf : List Int → Option Int
  | [] => none
  | x :: r => some (match leastOf r with | none => x | some y => min y x)
theorem leastOf_le : ∀ {l : List Int} {m : Int}, leastOf l = some m → m ∈ l ∧ ∀ x ∈ l, m ≤ x
  | [], m, h => by cases h
  | x :: r, m, h => by
    unfold leastOf at h
    cases hr : leastOf r with
    | none =>
      rw [hr] at h
      cases r with
      | nil => simp only [Option.some.injEq] at h; subst h; simp
      | cons y t => simp [leastOf] at hr
    | some y =>
      rw [hr] at h
      obtain ⟨h1, h2⟩ := leastOf_le hr
      simp only [Option.some.injEq] at h
      subst h
      refine ⟨?_, fun z hz => ?_⟩
      · by_cases hc : y ≤ x
        · rw [Int.min_eq_left hc]; exact List.mem_cons_of_mem _ h1
        · rw [Int.min_eq_right (by omega)]; exact List.mem_cons_self
      · rcases List.mem_cons.1 hz with rfl | hz
        · omega
        · have := h2 z hz; omega
theorem leastOf_some {l : List Int} {m : Int} (h1 : m ∈ l) (h2 : ∀ x ∈ l, m ≤ x) : leastOf l = some m := by
  cases h : leastOf l with
  | none => cases l with
    | nil => cases h1
    | cons x r => simp [leastOf] at h
  | some y =>
    obtain ⟨h3, h4⟩ := leastOf_le h
    have := h2 y h3
    have := h4 m h1
    rw [show y = m by omega]
theorem leastOf_perm {l k : List Int} (h : l.Perm k) : leastOf l = leastOf k := by
  cases hl : leastOf l with
  | none => cases l with
    | nil => rw [List.nil_perm.1 h]; rfl
    | cons x r => simp [leastOf] at hl
  | some y =>
    obtain ⟨h1, h2⟩ := leastOf_le hl
    exact (leastOf_some (h.mem_iff.1 h1) (fun x hx => h2 x (h.mem_iff.2 hx))).symm
/-- Least, with one tick more. -/
theorem leastOf_cons (x : Int) {l : List Int} {m : Int} (h : leastOf l = some m) : leastOf (x :: l) = some (if x < m then x else m) := by
  unfold leastOf
  rw [h]
  simp only [Option.some.injEq]
  split <;> omega

/-- What Next has found when the entries 'left' are still to come. -/
def NextRel (l left : List (Id × Int)) (v4 v5 : Value) : Prop :=
  ∃ done : List (Id × Int), (done ++ left).Perm l ∧ ((done = [] ∧ v5 = .bool false ∧ v4 = .int .i64 0) ∨ ∃ y, leastOf (done.map (·.2)) = some y ∧ v5 = .bool true ∧ v4 = .int .i64 y)
theorem NextRel.start (l : List (Id × Int)) : NextRel l l (.int .i64 0) (.bool false) := ⟨[], List.Perm.refl _, Or.inl ⟨rfl, rfl, rfl⟩⟩
theorem perm_step {α : Type} {l done a c : List α} {p : α} (h : (done ++ (a ++ p :: c)).Perm l) : ((p :: done) ++ (a ++ c)).Perm l := by
  refine List.Perm.trans ?_ h
  rw [List.cons_append]
  have h1 : (done ++ (a ++ p :: c)).Perm (p :: ((done ++ a) ++ c)) := by
    rw [← List.append_assoc]
    exact List.perm_middle
  rw [List.append_assoc] at h1
  exact h1.symm
set_option maxHeartbeats 400000 in
theorem Next_any (w : World) (b m : Nat) (l : List (Id × Int)) (h : Wheel w b m l) :
    Calls Try.prog 18 #[.pointer (some ⟨b, 0, none⟩)] w fun e w' => e = .returned (.tuple #[.int .i64 ((leastOf (l.map (·.2))).getD 0), .bool (!l.isEmpty)]) ∧ Ext w w' := by
  have hb := h.lt
  have hc : w.cell? ⟨b, 0, none⟩ = some (.map (some m)) := by simp [World.cell?, h.cell]
  obtain ⟨o, hr, hR⟩ := h.map.range (P := Try.prog) Try.underlying74
  go_enter Try.func18, Try.ntmps18
  go_wp2
  go_loopw [4, 5] (fun v4 v5 wr => ∃ left, Rng vId vInt wr m w.heap.size l left ∧ NextRel l left v4 v5 ∧ Ext w wr) (fun _ _ wr => rngLeft wr m w.heap.size)
  case atStart => exact ⟨l, hR, NextRel.start l, (Ext.refl w).alloc _⟩
  case round =>
    obtain ⟨left, hRl, ⟨done, hp, hN⟩, hE⟩ := hrel
    have hlt := hRl.left_eq
    have HL := hid hlt
    clear hlt
    rcases hRl.next (P := Try.prog) with ⟨h0, hn⟩ | ⟨a, p, c, w', hl, hn, hR', ⟨w1, o1, hw1, hw'⟩, he⟩
    · rcases hN with ⟨h1, rfl, rfl⟩ | ⟨y, h1, rfl, rfl⟩
      · go_wp2
        go_ret2
        subst h0 h1
        have := List.nil_perm.1 hp
        subst this
        exact ⟨rfl, hE⟩
      · subst h0
        rw [List.append_nil] at hp
        have h2 : leastOf (l.map (·.2)) = some y := by rw [← h1]; exact (leastOf_perm (hp.map _)).symm
        have h3 : l.isEmpty = false := by
          cases l with
          | nil => cases h2
          | cons _ _ => rfl
        have H2 := hid h2
        have H3 := hid h3
        clear h1 h2 h3
        go_wp2
        go_ret2
        exact ⟨by rw [H2.out, H3.out]; rfl, hE⟩
    · have hE' : Ext w w' := by
        rw [hw']
        refine Ext.setBlock ?_ (Nat.le_refl _) _
        rcases hw1 with rfl | rfl
        · exact hE
        · exact hE.drew
      have hm' : rngLeft w' m w.heap.size < rngLeft wr m w.heap.size := by
        rw [hR'.left_eq, HL.out, hl]
        simp
      have hp' := perm_step (hl ▸ hp)
      simp only [vId, vInt] at hn he
      have hN' : ∀ z, leastOf ((p :: done).map (·.2)) = some z → NextRel l (a ++ c) (.int .i64 z) (.bool true) := fun z hz => ⟨p :: done, hp', Or.inr ⟨z, hz, rfl, rfl⟩⟩
      have H1 := hid hl
      have H2 := hid hw'
      clear hl hw' hp hw1
      rcases hN with ⟨h1, rfl, rfl⟩ | ⟨y, h1, rfl, rfl⟩
      · have h2 := hN' p.2 (by rw [h1]; rfl)
        clear hN' h1
        go_wp2
        go_roundw
        case rel => exact ⟨_, hR', h2, hE'⟩
        case measure => exact hm'
      · have h2 := leastOf_cons p.2 h1
        by_cases hlt : p.2 < y
        · rw [if_pos hlt] at h2
          have h3 := hN' _ h2
          clear hN' h1 h2
          go_wp2
          go_roundw
          case rel => exact ⟨_, hR', h3, hE'⟩
          case measure => exact hm'
        · rw [if_neg hlt] at h2
          have h3 := hN' _ h2
          clear hN' h1 h2
          go_wp2
          go_roundw
          case rel => exact ⟨_, hR', h3, hE'⟩
          case measure => exact hm'
theorem Wheel.drewN {w : World} {b m : Nat} {l : List (Id × Int)} (h : Wheel w b m l) (n : Nat) : Wheel (w.drewN n) b m l := ⟨h.cell, h.map⟩
theorem Wheel.ext {w w' : World} {b m : Nat} {l : List (Id × Int)} (h : Wheel w b m l) (hE : Ext w w') : Wheel w' b m l := h.kept (hE.keeps (S := fun _ => False)) (fun h => h) (fun h => h)
theorem New_spec (w : World) : Calls Try.prog 9 #[] w fun e w' => ∃ b m, e = .returned (.pointer (some ⟨b, 0, none⟩)) ∧ Wheel w' b m [] ∧ Ext w w' ∧ w.heap.size ≤ m ∧ w.heap.size ≤ b := by
  refine (New_any w).mono ?_
  rintro e w' ⟨rfl, rfl⟩
  refine ⟨w.heap.size + 1, w.heap.size, rfl, ⟨?_, ?_⟩, ((Ext.refl w).alloc _).alloc _, Nat.le_refl _, by omega⟩
  · have := heap_alloc_new (w.alloc (.map #[] 0)) (.cells #[.map (some w.heap.size)] 76)
    simpa using this
  · exact (MapIs.made w vId vInt).same (Below.heap_alloc _ _ _ (by simp))
end Go.Proofs.Ytlepfohhfngndaa
