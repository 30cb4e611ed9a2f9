/- The disk's memory: which blocks it has, and what it holds. -/
import Derived.Test.YtopabknlgmihpaaBytes
namespace Go.Proofs.Ytopabknlgmihpaa
open Go Go.RowKit Go.MapKept Go.ChangeMaps Go.Maps

structure FileS where
  v : Value
  bs : List UInt8
  sure : Nat
structure DkS where
  m : Nat
  room : Int
  fuse : Int
  down : Bool
  l : List (SKey × Nat)
  fs : Nat → FileS
def vP (e : Nat) : Value := .pointer (some ⟨e, 0, none⟩)
/-- The blocks of a disk that lies in block p. -/
def DkS.Blk (s : DkS) (p g : Nat) : Prop := g = p ∨ g = s.m ∨ ∃ x ∈ s.l, g = x.2 ∨ (s.fs x.2).v.ownBlock = some g

/-- What a disk tells: its files by names, each with its bytes, and how many of them are sure. -/
structure AD where
  room : Int
  fuse : Int
  down : Bool
  l : List (SKey × List UInt8 × Nat)
def DkS.abs (s : DkS) : AD := ⟨s.room, s.fuse, s.down, s.l.map (fun x => (x.1, (s.fs x.2).bs, (s.fs x.2).sure))⟩
def totL (l : List (SKey × List UInt8 × Nat)) : Nat := (l.map (fun x => x.2.1.length)).sum
/-- A disk as it should be. -/
structure AD.Good (d : AD) : Prop where
  keys : d.l.Pairwise (fun x y => x.1 ≠ y.1)
  sure : ∀ x ∈ d.l, x.2.2 ≤ x.2.1.length
  len : d.l.length ≤ 16
  tot : (totL d.l : Int) ≤ d.room
  room : 0 ≤ d.room ∧ d.room ≤ 1073741824
  fuse : -1 ≤ d.fuse ∧ d.fuse ≤ 9223372036854775807

structure Dk (w : World) (p : Nat) (s : DkS) : Prop where
  cell : w.heap[p]? = some (.cells #[.map (some s.m), .int .i64 s.room, .int .i64 s.fuse, .bool s.down] 67 (0, 0))
  files : MapIs vS vP w s.m s.l
  ent : ∀ x ∈ s.l, w.heap[x.2]? = some (.cells #[(s.fs x.2).v, .int .i64 (s.fs x.2).sure] 73 (0, 0))
  own : ∀ x ∈ s.l, OwnB w (s.fs x.2).v (s.fs x.2).bs
  npm : p ≠ s.m
  nde : s.l.Pairwise (fun x y => x.2 ≠ y.2)
  ne : ∀ x ∈ s.l, x.2 ≠ p ∧ x.2 ≠ s.m
  nr : ∀ x ∈ s.l, ∀ g, (s.fs x.2).v.ownBlock = some g → g ≠ p ∧ g ≠ s.m ∧ (∀ y ∈ s.l, g ≠ y.2) ∧ ∀ y ∈ s.l, y.2 ≠ x.2 → (s.fs y.2).v.ownBlock ≠ some g
section
variable {w w' : World} {p : Nat} {s : DkS}
theorem Dk.lt (h : Dk w p s) : ∀ g, s.Blk p g → g < w.heap.size := fun g hg => by
  rcases hg with rfl | rfl | ⟨x, hx, rfl | hg⟩
  · exact (Array.getElem?_eq_some_iff.1 h.cell).1
  · exact h.files.lt
  · exact (Array.getElem?_eq_some_iff.1 (h.ent x hx)).1
  · exact (h.own x hx).lt g hg
theorem Dk.same (h : Dk w p s) (k : ∀ g, s.Blk p g → w'.heap[g]? = w.heap[g]?) : Dk w' p s :=
  ⟨(k p (Or.inl rfl)).trans h.cell, h.files.same (k _ (Or.inr (Or.inl rfl))), fun x hx => (k _ (Or.inr (Or.inr ⟨x, hx, Or.inl rfl⟩))).trans (h.ent x hx), fun x hx => (h.own x hx).same (fun g hg => k g (Or.inr (Or.inr ⟨x, hx, Or.inr hg⟩))), h.npm, h.nde, h.ne, h.nr⟩
theorem Dk.keeps (h : Dk w p s) {S : Nat → Prop} (k : Keeps S w w') (hS : ∀ g, s.Blk p g → ¬ S g) : Dk w' p s := h.same fun g hg => k.block g (h.lt g hg) (hS g hg)
theorem Dk.below (h : Dk w p s) (k : Below w.heap.size w w') : Dk w' p s := h.same fun g hg => k.block g (h.lt g hg)
theorem Dk.ext (h : Dk w p s) (k : Ext w w') : Dk w' p s := h.below k.below
theorem Dk.cells (h : Dk w p s) : w.cell? ⟨p, 0, none⟩ = some (.map (some s.m)) ∧ w.cell? ⟨p, 1, none⟩ = some (.int .i64 s.room) ∧ w.cell? ⟨p, 2, none⟩ = some (.int .i64 s.fuse) ∧ w.cell? ⟨p, 3, none⟩ = some (.bool s.down) := by
  simp [World.cell?, h.cell]
theorem Dk.free (h : Dk w p s) (o : Nat) : w.frozen? ⟨p, o, none⟩ = false := by simp [World.frozen?, h.cell]
theorem Dk.ecells (h : Dk w p s) {x : SKey × Nat} (hx : x ∈ s.l) : w.cell? ⟨x.2, 0, none⟩ = some (s.fs x.2).v ∧ w.cell? ⟨x.2, 1, none⟩ = some (.int .i64 (s.fs x.2).sure) := by
  simp [World.cell?, h.ent x hx]
theorem Dk.efree (h : Dk w p s) {x : SKey × Nat} (hx : x ∈ s.l) (o : Nat) : w.frozen? ⟨x.2, o, none⟩ = false := by simp [World.frozen?, h.ent x hx]
theorem Dk.keys (h : Dk w p s) : s.l.Pairwise (fun x y => x.1 ≠ y.1) := h.files.nodup

/-- Another file's content. -/
def updF (f : Nat → FileS) (e : Nat) (x : FileS) : Nat → FileS := fun k => if k = e then x else f k
theorem updF_same (f : Nat → FileS) (e : Nat) (x : FileS) : updF f e x e = x := by simp [updF]
theorem updF_other (f : Nat → FileS) {e k : Nat} (x : FileS) (h : k ≠ e) : updF f e x k = f k := by simp [updF, h]
theorem pw_eq {α β : Type} {l : List α} {f : α → β} (h : l.Pairwise (fun x y => f x ≠ f y)) {x y : α} (hx : x ∈ l) (hy : y ∈ l) (e : f x = f y) : x = y := by
  induction l with
  | nil => cases hx
  | cons a r ih =>
    rw [List.pairwise_cons] at h
    rcases List.mem_cons.1 hx with hx1 | hx1
    · rcases List.mem_cons.1 hy with hy1 | hy1
      · exact hx1.trans hy1.symm
      · exact absurd (hx1 ▸ e) (h.1 y hy1)
    · rcases List.mem_cons.1 hy with hy1 | hy1
      · exact absurd (hy1 ▸ e).symm (h.1 x hx1)
      · exact ih h.2 hx1 hy1
theorem Dk.entry_eq (h : Dk w p s) {x y : SKey × Nat} (hx : x ∈ s.l) (hy : y ∈ s.l) (e : x.2 = y.2) : x = y := pw_eq (f := Prod.snd) h.nde hx hy e
theorem Dk.key_eq (h : Dk w p s) {x y : SKey × Nat} (hx : x ∈ s.l) (hy : y ∈ s.l) (e : x.1 = y.1) : x = y := pw_eq (f := Prod.fst) h.keys hx hy e

/-- The disk's own words are turned. -/
theorem Dk.setWords (h : Dk w p s) {fuse : Int} {down : Bool} (hc : w'.heap[p]? = some (.cells #[.map (some s.m), .int .i64 s.room, .int .i64 fuse, .bool down] 67 (0, 0))) (k : ∀ g, s.Blk p g → g ≠ p → w'.heap[g]? = w.heap[g]?) :
    Dk w' p { s with fuse := fuse, down := down } :=
  ⟨hc, h.files.same (k _ (Or.inr (Or.inl rfl)) h.npm.symm), fun x hx => (k _ (Or.inr (Or.inr ⟨x, hx, Or.inl rfl⟩)) (h.ne x hx).1).trans (h.ent x hx), fun x hx => (h.own x hx).same (fun g hg => k g (Or.inr (Or.inr ⟨x, hx, Or.inr hg⟩)) (h.nr x hx g hg).1), h.npm, h.nde, h.ne, h.nr⟩
/-- A file's content is turned. -/
theorem Dk.setFile (h : Dk w p s) {x : SKey × Nat} (hx : x ∈ s.l) {f : FileS} (he : w'.heap[x.2]? = some (.cells #[f.v, .int .i64 f.sure] 73 (0, 0))) (ho : OwnB w' f.v f.bs)
    (hrow : ∀ g, f.v.ownBlock = some g → (s.fs x.2).v.ownBlock = some g ∨ w.heap.size ≤ g) (k : ∀ g, s.Blk p g → g ≠ x.2 → (s.fs x.2).v.ownBlock ≠ some g → w'.heap[g]? = w.heap[g]?) :
    Dk w' p { s with fs := updF s.fs x.2 f } := by
  have hfree : ∀ g, f.v.ownBlock = some g → g ≠ p ∧ g ≠ s.m ∧ (∀ y ∈ s.l, g ≠ y.2) ∧ ∀ y ∈ s.l, y.2 ≠ x.2 → (s.fs y.2).v.ownBlock ≠ some g := fun g hg => by
    rcases hrow g hg with h1 | h1
    · exact h.nr x hx g h1
    · refine ⟨fun e => ?_, fun e => ?_, fun y hy e => ?_, fun y hy _ e => ?_⟩
      · have := h.lt g (Or.inl e); omega
      · have := h.lt g (Or.inr (Or.inl e)); omega
      · have := h.lt g (Or.inr (Or.inr ⟨y, hy, Or.inl e⟩)); omega
      · have := h.lt g (Or.inr (Or.inr ⟨y, hy, Or.inr e⟩)); omega
  have hsep : ∀ y ∈ s.l, y.2 ≠ x.2 → ∀ g, (s.fs y.2).v.ownBlock = some g → g ≠ x.2 ∧ (s.fs x.2).v.ownBlock ≠ some g := fun y hy hne g hg => ⟨(h.nr y hy g hg).2.2.1 x hx, (h.nr y hy g hg).2.2.2 x hx (fun e => hne e.symm)⟩
  refine ⟨(k p (Or.inl rfl) (h.ne x hx).1.symm (fun e => (h.nr x hx p e).1 rfl)).trans h.cell, h.files.same (k _ (Or.inr (Or.inl rfl)) (h.ne x hx).2.symm (fun e => (h.nr x hx _ e).2.1 rfl)), fun y hy => ?_, fun y hy => ?_, h.npm, h.nde, h.ne, fun y hy g hg => ?_⟩
  · by_cases hyx : y.2 = x.2
    · simp only [hyx, updF_same]; exact he
    · simp only [updF_other _ _ hyx]
      exact (k _ (Or.inr (Or.inr ⟨y, hy, Or.inl rfl⟩)) hyx (fun e => (h.nr x hx _ e).2.2.1 y hy rfl)).trans (h.ent y hy)
  · by_cases hyx : y.2 = x.2
    · simp only [hyx, updF_same]; exact ho
    · simp only [updF_other _ _ hyx]
      exact (h.own y hy).same (fun g hg => k g (Or.inr (Or.inr ⟨y, hy, Or.inr hg⟩)) (hsep y hy hyx g hg).1 (hsep y hy hyx g hg).2)
  · by_cases hyx : y.2 = x.2
    · simp only [hyx, updF_same] at hg
      obtain ⟨h1, h2, h3, h4⟩ := hfree g hg
      exact ⟨h1, h2, h3, fun z hz hzy => by
        have hzx : z.2 ≠ x.2 := fun e => hzy (e.trans hyx.symm)
        simp only [updF_other _ _ hzx]; exact h4 z hz hzx⟩
    · simp only [updF_other _ _ hyx] at hg
      obtain ⟨h1, h2, h3, h4⟩ := h.nr y hy g hg
      refine ⟨h1, h2, h3, fun z hz hzy => ?_⟩
      by_cases hzx : z.2 = x.2
      · simp only [hzx, updF_same]
        exact fun e => (hfree g e).2.2.2 y hy hyx hg
      · simp only [updF_other _ _ hzx]
        exact h4 z hz hzy
/-- The names are turned: each entry that is left was there, under whatever name. -/
theorem Dk.setNames (h : Dk w p s) {l : List (SKey × Nat)} (hm : MapIs vS vP w' s.m l) (k : ∀ g, s.Blk p g → g ≠ s.m → w'.heap[g]? = w.heap[g]?) (hd : l.Pairwise (fun x y => x.2 ≠ y.2)) (hsub : ∀ x ∈ l, ∃ y ∈ s.l, y.2 = x.2) :
    Dk w' p { s with l := l } := by
  refine ⟨(k p (Or.inl rfl) h.npm).trans h.cell, hm, fun x hx => ?_, fun x hx => ?_, h.npm, hd, fun x hx => ?_, fun x hx g hg => ?_⟩
  · obtain ⟨y, hy, e⟩ := hsub x hx
    rw [← e]
    exact (k _ (Or.inr (Or.inr ⟨y, hy, Or.inl rfl⟩)) (h.ne y hy).2).trans (h.ent y hy)
  · obtain ⟨y, hy, e⟩ := hsub x hx
    rw [← e]
    exact (h.own y hy).same (fun g hg => k g (Or.inr (Or.inr ⟨y, hy, Or.inr hg⟩)) (h.nr y hy g hg).2.1)
  · obtain ⟨y, hy, e⟩ := hsub x hx
    rw [← e]
    exact h.ne y hy
  · obtain ⟨y, hy, e⟩ := hsub x hx
    simp only [← e] at hg ⊢
    obtain ⟨h1, h2, h3, h4⟩ := h.nr y hy g hg
    refine ⟨h1, h2, fun z hz => ?_, fun z hz hzy => ?_⟩
    · obtain ⟨u, hu, e2⟩ := hsub z hz
      rw [← e2]
      exact h3 u hu
    · obtain ⟨u, hu, e2⟩ := hsub z hz
      rw [← e2] at hzy ⊢
      exact h4 u hu hzy
/-- A file more, in a new block. -/
theorem Dk.addFile (h : Dk w p s) {name : SKey} {e : Nat} {f : FileS} (hm : MapIs vS vP w' s.m (s.l ++ [(name, e)])) (hn : w.heap.size ≤ e) (he : w'.heap[e]? = some (.cells #[f.v, .int .i64 f.sure] 73 (0, 0))) (ho : OwnB w' f.v f.bs)
    (hrow : ∀ g, f.v.ownBlock = some g → w.heap.size ≤ g ∧ g ≠ e) (k : ∀ g, s.Blk p g → g ≠ s.m → w'.heap[g]? = w.heap[g]?) :
    Dk w' p { s with l := s.l ++ [(name, e)], fs := updF s.fs e f } := by
  have hne : ∀ y ∈ s.l, y.2 ≠ e := fun y hy e1 => by have := h.lt y.2 (Or.inr (Or.inr ⟨y, hy, Or.inl rfl⟩)); omega
  have hp := h.lt p (Or.inl rfl)
  have hmm := h.lt s.m (Or.inr (Or.inl rfl))
  refine ⟨(k p (Or.inl rfl) h.npm).trans h.cell, hm, fun y hy => ?_, fun y hy => ?_, h.npm, ?_, fun y hy => ?_, fun y hy g hg => ?_⟩
  · rcases List.mem_append.1 hy with hy | hy
    · simp only [updF_other _ _ (hne y hy)]
      exact (k _ (Or.inr (Or.inr ⟨y, hy, Or.inl rfl⟩)) (h.ne y hy).2).trans (h.ent y hy)
    · rw [List.mem_singleton] at hy; subst hy
      simp only [updF_same]; exact he
  · rcases List.mem_append.1 hy with hy | hy
    · simp only [updF_other _ _ (hne y hy)]
      exact (h.own y hy).same (fun g hg => k g (Or.inr (Or.inr ⟨y, hy, Or.inr hg⟩)) (h.nr y hy g hg).2.1)
    · rw [List.mem_singleton] at hy; subst hy
      simp only [updF_same]; exact ho
  · refine List.pairwise_append.2 ⟨h.nde, List.pairwise_singleton _ _, fun y hy z hz => ?_⟩
    rw [List.mem_singleton] at hz; subst hz
    exact hne y hy
  · rcases List.mem_append.1 hy with hy | hy
    · exact h.ne y hy
    · rw [List.mem_singleton] at hy; subst hy
      exact ⟨fun e1 => by simp only at e1; omega, fun e1 => by simp only at e1; omega⟩
  · rcases List.mem_append.1 hy with hy | hy
    · simp only [updF_other _ _ (hne y hy)] at hg
      obtain ⟨h1, h2, h3, h4⟩ := h.nr y hy g hg
      have hgl := h.lt g (Or.inr (Or.inr ⟨y, hy, Or.inr hg⟩))
      refine ⟨h1, h2, fun z hz => ?_, fun z hz hzy => ?_⟩
      · rcases List.mem_append.1 hz with hz | hz
        · exact h3 z hz
        · rw [List.mem_singleton] at hz; subst hz; simp only; omega
      · rcases List.mem_append.1 hz with hz | hz
        · simp only [updF_other _ _ (hne z hz)]; exact h4 z hz hzy
        · rw [List.mem_singleton] at hz; subst hz
          simp only [updF_same]
          exact fun e1 => by have := (hrow g e1).1; omega
    · rw [List.mem_singleton] at hy; subst hy
      simp only [updF_same] at hg
      obtain ⟨h1, h2⟩ := hrow g hg
      refine ⟨by omega, (show g ≠ s.m by omega), fun z hz => ?_, fun z hz hzy => ?_⟩
      · rcases List.mem_append.1 hz with hz | hz
        · have := h.lt z.2 (Or.inr (Or.inr ⟨z, hz, Or.inl rfl⟩)); omega
        · rw [List.mem_singleton] at hz; subst hz; exact h2
      · rcases List.mem_append.1 hz with hz | hz
        · simp only [updF_other _ _ (hne z hz)]
          exact fun e1 => by have := h.lt g (Or.inr (Or.inr ⟨z, hz, Or.inr e1⟩)); omega
        · rw [List.mem_singleton] at hz; subst hz; exact absurd rfl hzy
end

section
variable {s : DkS} {w : World} {p : Nat}
theorem abs_get (l : List (SKey × Nat)) (fs : Nat → FileS) (k : SKey) : aget (l.map (fun x => (x.1, (fs x.2).bs, (fs x.2).sure))) k = (aget l k).map (fun e => ((fs e).bs, (fs e).sure)) := by
  unfold aget
  rw [List.find?_map]
  cases h : l.find? ((fun p => decide (p.1 = k)) ∘ fun x => (x.1, (fs x.2).bs, (fs x.2).sure)) with
  | none =>
    rw [show ((fun p : SKey × List UInt8 × Nat => decide (p.1 = k)) ∘ fun x : SKey × Nat => (x.1, (fs x.2).bs, (fs x.2).sure)) = (fun p : SKey × Nat => decide (p.1 = k)) from rfl] at h
    rw [h]; rfl
  | some x =>
    rw [show ((fun p : SKey × List UInt8 × Nat => decide (p.1 = k)) ∘ fun x : SKey × Nat => (x.1, (fs x.2).bs, (fs x.2).sure)) = (fun p : SKey × Nat => decide (p.1 = k)) from rfl] at h
    rw [h]; rfl
theorem abs_del (l : List (SKey × Nat)) (fs : Nat → FileS) (k : SKey) : (adel l k).map (fun x => (x.1, (fs x.2).bs, (fs x.2).sure)) = adel (l.map (fun x => (x.1, (fs x.2).bs, (fs x.2).sure))) k := by
  unfold adel
  rw [List.filter_map]
  rfl
theorem ahas_abs (l : List (SKey × Nat)) (fs : Nat → FileS) (k : SKey) : ahas (l.map (fun x => (x.1, (fs x.2).bs, (fs x.2).sure))) k = ahas l k := by
  rw [ahas_eq, abs_get, ahas_eq]
  cases aget l k <;> rfl
theorem mem_of_get {κ β : Type} [DecidableEq κ] {l : List (κ × β)} {x : κ} {v : β} (h : aget l x = some v) : (x, v) ∈ l := by
  unfold aget at h
  cases hf : l.find? (fun p => decide (p.1 = x)) with
  | none => rw [hf] at h; cases h
  | some q =>
    rw [hf] at h
    have h1 := List.find?_some hf
    have h2 := List.mem_of_find?_eq_some hf
    simp at h1 h
    subst h1 h
    exact h2
theorem abs_set (hk : s.l.Pairwise (fun x y => x.1 ≠ y.1)) (hd : s.l.Pairwise (fun x y => x.2 ≠ y.2)) {x : SKey × Nat} (hx : x ∈ s.l) (f : FileS) :
    s.l.map (fun y => (y.1, (updF s.fs x.2 f y.2).bs, (updF s.fs x.2 f y.2).sure)) = aput (s.l.map (fun y => (y.1, (s.fs y.2).bs, (s.fs y.2).sure))) x.1 (f.bs, f.sure) := by
  unfold aput
  rw [if_pos (by rw [ahas_abs]; exact ahas_iff.2 ⟨x, hx, rfl⟩), List.map_map]
  refine List.map_congr_left (fun y hy => ?_)
  by_cases hyx : y = x
  · subst hyx
    simp [updF_same]
  · have h1 : y.2 ≠ x.2 := fun e => hyx (pw_eq (f := Prod.snd) hd hy hx e)
    have h2 : y.1 ≠ x.1 := fun e => hyx (pw_eq (f := Prod.fst) hk hy hx e)
    simp [updF_other _ _ h1, h2]
theorem abs_add {k : SKey} (hn : ahas s.l k = false) {e : Nat} (hne : ∀ y ∈ s.l, y.2 ≠ e) (f : FileS) :
    (s.l ++ [(k, e)]).map (fun y => (y.1, (updF s.fs e f y.2).bs, (updF s.fs e f y.2).sure)) = aput (s.l.map (fun y => (y.1, (s.fs y.2).bs, (s.fs y.2).sure))) k (f.bs, f.sure) := by
  unfold aput
  rw [if_neg (by rw [ahas_abs, hn]; simp), List.map_append]
  congr 1
  · refine List.map_congr_left (fun y hy => ?_)
    rw [updF_other _ _ (hne y hy)]
  · simp [updF_same]
theorem len_abs (s : DkS) : s.abs.l.length = s.l.length := by simp [DkS.abs]
end
end Go.Proofs.Ytopabknlgmihpaa
