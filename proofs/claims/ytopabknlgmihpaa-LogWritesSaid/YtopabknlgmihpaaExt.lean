/- 'Ext w w'': w' is w with draws and with new blocks behind; small facts on worlds. -/
import Derived.WalkKit
import Derived.Sort.Grow
import Derived.Deep.Draws
import Derived.Sort.Row
import Derived.ChangeMaps5
namespace Go.Proofs.Ytopabknlgmihpaa
open Go Go.Proofs Go.RowKit Go.ChangeMaps Go.Sort

theorem hid {p : Prop} (h : p) : Hid p := h

/-- w' is w with draws and new blocks. -/
def Ext (w w' : World) : Prop := ∃ q os, w' = grow (w.drewN q) os
theorem Ext.refl (w : World) : Ext w w := ⟨0, #[], by simp [grow, World.drewN]⟩
theorem Ext.drewN {w w' : World} (h : Ext w w') (n : Nat) : Ext w (w'.drewN n) := by
  obtain ⟨q, os, rfl⟩ := h
  exact ⟨q + n, os, by simp only [grow, World.drewN]; rw [Nat.add_assoc]⟩
theorem Ext.drew {w w' : World} (h : Ext w w') : Ext w w'.drew := h.drewN 1
theorem Ext.alloc {w w' : World} (h : Ext w w') (o : Obj) : Ext w (w'.alloc o) := by
  obtain ⟨q, os, rfl⟩ := h
  refine ⟨q, os.push o, ?_⟩
  simp [grow, World.alloc, World.drewN]
theorem Ext.trans {a b c : World} (h : Ext a b) (k : Ext b c) : Ext a c := by
  obtain ⟨q, os, rfl⟩ := h
  obtain ⟨q', os', rfl⟩ := k
  exact ⟨q + q', os ++ os', by simp [grow, World.drewN, Nat.add_assoc]⟩
theorem Ext.size {w w' : World} (h : Ext w w') : w.heap.size ≤ w'.heap.size := by
  obtain ⟨q, os, rfl⟩ := h
  simp [grow, World.drewN]
theorem Ext.block {w w' : World} (h : Ext w w') (i : Nat) (hi : i < w.heap.size) : w'.heap[i]? = w.heap[i]? := by
  obtain ⟨q, os, rfl⟩ := h
  simp [grow, World.drewN, Array.getElem?_append, hi]
theorem Ext.below {w w' : World} (h : Ext w w') : Below w.heap.size w w' := by
  have h1 := h.size
  have h2 := h.block
  obtain ⟨q, os, rfl⟩ := h
  exact ⟨rfl, rfl, rfl, h1, h2⟩
theorem Ext.setCell {w w' : World} (h : Ext w w') {p : Addr} (hp : w.heap.size ≤ p.block) (u : Value) : Ext w (w'.setCell p u) := by
  obtain ⟨q, os, rfl⟩ := h
  refine ⟨q, os.modify (p.block - w.heap.size) (fun | .cells c elem frozen => .cells (if p.spot.isSome then c else c.setIfInBounds p.off u) elem frozen | o => o), ?_⟩
  unfold World.setCell grow
  simp only [World.drewN]
  congr 1
  apply Array.ext_getElem?
  intro i
  rw [Array.getElem?_modify, Array.getElem?_append, Array.getElem?_append, Array.getElem?_modify]
  by_cases h1 : i < w.heap.size
  · rw [if_pos h1, if_neg (by omega), if_pos h1]
  · rw [if_neg h1, if_neg h1]
    by_cases h2 : p.block = i
    · rw [if_pos h2, if_pos (by omega)]
      rfl
    · rw [if_neg h2, if_neg (by omega)]
theorem Ext.setBlock {w w' : World} (h : Ext w w') {b : Nat} (hb : w.heap.size ≤ b) (o : Obj) : Ext w (ChangeMaps.setBlock w' b o) := by
  obtain ⟨q, os, rfl⟩ := h
  refine ⟨q, os.setIfInBounds (b - w.heap.size) o, ?_⟩
  unfold ChangeMaps.setBlock grow
  simp only [World.drewN]
  congr 1
  apply Array.ext_getElem?
  intro i
  simp only [Array.getElem?_setIfInBounds, Array.getElem?_append, Array.size_append]
  by_cases h1 : i < w.heap.size
  · rw [if_neg (by omega), if_pos h1, if_pos h1]
  · rw [if_neg h1, if_neg h1]
    by_cases h2 : b = i
    · subst h2
      simp only [if_true]
      by_cases h3 : b < w.heap.size + os.size
      · rw [if_pos h3, if_pos (by omega)]
      · rw [if_neg h3, if_neg (by omega)]
    · rw [if_neg h2, if_neg (by omega)]

/-- w' is w, but for new blocks and for what lies in the blocks S. -/
structure Keeps (S : Nat → Prop) (w w' : World) : Prop where
  os : w'.os = w.os
  tape : w'.tape = w.tape
  output : w'.output = w.output
  size : w.heap.size ≤ w'.heap.size
  block : ∀ k, k < w.heap.size → ¬ S k → w'.heap[k]? = w.heap[k]?
theorem Keeps.refl (S : Nat → Prop) (w : World) : Keeps S w w := ⟨rfl, rfl, rfl, Nat.le_refl _, fun _ _ _ => rfl⟩
theorem Keeps.trans {S T : Nat → Prop} {a b c : World} (h : Keeps S a b) (k : Keeps T b c) (hT : ∀ i, i < a.heap.size → T i → S i) : Keeps S a c :=
  ⟨k.os.trans h.os, k.tape.trans h.tape, k.output.trans h.output, Nat.le_trans h.size k.size, fun i hi hS => (k.block i (Nat.lt_of_lt_of_le hi h.size) (fun ht => hS (hT i hi ht))).trans (h.block i hi hS)⟩
theorem Keeps.mono {S T : Nat → Prop} {w w' : World} (h : Keeps S w w') (hT : ∀ i, i < w.heap.size → S i → T i) : Keeps T w w' :=
  ⟨h.os, h.tape, h.output, h.size, fun i hi hS => h.block i hi (fun hs => hS (hT i hi hs))⟩
theorem Ext.keeps {S : Nat → Prop} {w w' : World} (h : Ext w w') : Keeps S w w' := ⟨h.below.os, h.below.tape, h.below.output, h.size, fun k hk _ => h.block k hk⟩
theorem below_keeps {S : Nat → Prop} {w w' : World} (h : Below w.heap.size w w') : Keeps S w w' := ⟨h.os, h.tape, h.output, h.size, fun k hk _ => h.block k hk⟩
theorem Keeps.below {w w' : World} {S : Nat → Prop} (h : Keeps S w w') {B : Nat} (hB : B ≤ w.heap.size) (hS : ∀ k, S k → B ≤ k) : Below B w w' :=
  ⟨h.os, h.tape, h.output, h.size, fun k hk => h.block k (by omega) (fun hs => by have := hS k hs; omega)⟩
theorem Keeps.alloc {S : Nat → Prop} {w w' : World} (h : Keeps S w w') (o : Obj) : Keeps S w (w'.alloc o) := h.trans (((Ext.refl w').alloc o).keeps (S := S)) (fun _ _ h => h)
theorem Keeps.drewN {S : Nat → Prop} {w w' : World} (h : Keeps S w w') (n : Nat) : Keeps S w (w'.drewN n) := h.trans (((Ext.refl w').drewN n).keeps (S := S)) (fun _ _ h => h)
theorem Keeps.drew {S : Nat → Prop} {w w' : World} (h : Keeps S w w') : Keeps S w w'.drew := h.drewN 1
theorem setBlock_other (w : World) (b : Nat) (o : Obj) {i : Nat} (h : i ≠ b) : (ChangeMaps.setBlock w b o).heap[i]? = w.heap[i]? := by
  unfold ChangeMaps.setBlock
  simp only [Array.getElem?_setIfInBounds]
  rw [if_neg (fun e => h e.symm)]
theorem Keeps.setBlock {S : Nat → Prop} {w w' : World} (h : Keeps S w w') {b : Nat} (hb : b < w.heap.size → S b) (o : Obj) : Keeps S w (ChangeMaps.setBlock w' b o) :=
  ⟨h.os, h.tape, h.output, by have := h.size; simpa [ChangeMaps.setBlock] using this, fun k hk hS => (setBlock_other w' b o (fun e => hS (by subst e; exact hb hk))).trans (h.block k hk hS)⟩
theorem Keeps.setCell {S : Nat → Prop} {w w' : World} (h : Keeps S w w') {p : Addr} (hb : p.block < w.heap.size → S p.block) (u : Value) : Keeps S w (w'.setCell p u) :=
  ⟨h.os, h.tape, h.output, by have := h.size; simpa [World.setCell] using this, fun k hk hS => (Below.heap_setCell w' p u k (fun e => hS (by subst e; exact hb hk))).trans (h.block k hk hS)⟩
theorem Keeps.grown {S : Nat → Prop} {w a b : World} {row : Option Nat} (h : Keeps S w a) (g : a.grownBy b row) (hr : ∀ k, k < w.heap.size → row = some k → S k) : Keeps S w b :=
  h.trans (T := fun k => row = some k) ⟨g.os, g.tape, g.output, g.size, fun k hk hn => g.block k hk (fun e => hn e.symm)⟩ (fun i hi e => hr i hi e)

theorem Keeps.cell {S : Nat → Prop} {w w' : World} (h : Keeps S w w') {b o : Nat} {v : Value} (hS : ¬ S b) (hc : w.cell? ⟨b, o, none⟩ = some v) : w'.cell? ⟨b, o, none⟩ = some v :=
  (World.cell?_of_block (w := w) (a := ⟨b, o, none⟩) (h.block b (World.block_lt_of_cell? w ⟨b, o, none⟩ hc) hS)).trans hc

/-- Below: the shorthand at the heap's own size. -/
theorem below_heap {w w' : World} (h : Below w.heap.size w w') (i : Nat) (hi : i < w.heap.size) : w'.heap[i]? = w.heap[i]? := h.block i hi
theorem below_trans' {a b c : World} (h : Below a.heap.size a b) (k : Below b.heap.size b c) : Below a.heap.size a c := h.trans (k.mono h.size)
theorem bdrewN {B : Nat} {w w' : World} (h : Below B w w') (n : Nat) : Below B w (w'.drewN n) := ⟨h.os, h.tape, h.output, h.size, h.block⟩
theorem owns_drewN {w : World} {base : Nat} {e : TypeId} {size : Nat} {v : Value} {n : Nat} {xs : List Value} (h : w.ownsRow base e size v n xs) (q : Nat) : (w.drewN q).ownsRow base e size v n xs := h
theorem heap_drewN (w : World) (n : Nat) : (w.drewN n).heap = w.heap := rfl
end Go.Proofs.Ytopabknlgmihpaa
