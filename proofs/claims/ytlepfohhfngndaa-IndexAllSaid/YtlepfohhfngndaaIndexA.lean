/- The index: its memory; New, in, Drop, Put, Len. -/
import Derived.Test.YtlepfohhfngndaaCmdB
import Derived.Test.YtlepfohhfngndaaSet
import Derived.StringKeys
namespace Go.Proofs.Ytlepfohhfngndaa
open Go Go.RowKit Go.MapKept Go.ChangeMaps Go.Maps

abbrev SKey : Type := {s : ByteArray // s.size ≤ maxLen}
abbrev IKey : Type := {x : Int // I64 x}
abbrev CE : Type := Cmd × Int
def vS (s : SKey) : Value := .string s.1
def vK (x : IKey) : Value := .int .i64 x.1
def vE (x : CE) : Value := .agg #[.int .i64 x.1.kind, .int .i64 x.1.client, .int .i64 x.1.seq, .string x.1.key, .string x.1.val, .int .i64 x.1.rev, .int .i64 x.2]
def vG (g : Nat) : Value := .map (some g)
def vT (_ : Unit) : Value := .bool true
theorem keyS : KeyT Try.prog 9 vS := ⟨string_keyed Try.underlying9, fun x => ⟨_, WideMaps.keyOf_string_mk Try.underlying9 x.2⟩, fun x y h => by unfold vS at h; simp at h; exact Subtype.ext h⟩
theorem keyK : KeyT Try.prog 3 vK := ⟨int_keyed Try.underlying3, fun x => ⟨_, keyOf_int_mk Try.underlying3 x.2.wf⟩, fun x y h => by unfold vK at h; simp at h; exact Subtype.ext h⟩
def zE : Value := .agg #[.int .i64 0, .int .i64 0, .int .i64 0, .string ⟨#[]⟩, .string ⟨#[]⟩, .int .i64 0, .int .i64 0]
theorem zeroE (w : World) : (zeroValue 90).run Try.prog w = .ok zE w := by kernel_rfl
theorem zeroG (w : World) : (zeroValue 86).run Try.prog w = .ok (.map none) w := by kernel_rfl
theorem zeroBool (w : World) : (zeroValue 4).run Try.prog w = .ok (.bool false) w := by kernel_rfl

/-- What an index holds. -/
structure IxS where
  ma : Nat
  mq : Nat
  mc : Nat
  mw : Nat
  la : List (Id × CE)
  lk : List (SKey × Nat)
  lc : List (IKey × Nat)
  lw : List (Id × Unit)
  gr : Nat → List (Id × Unit)
def IxS.gs (s : IxS) : List Nat := s.lk.map (·.2) ++ s.lc.map (·.2)
def IxS.blocks (s : IxS) (b : Nat) : List Nat := b :: s.ma :: s.mq :: s.mc :: s.mw :: s.gs
/-- Block b is an index that holds s. -/
structure Ix (w : World) (b : Nat) (s : IxS) : Prop where
  cell : w.heap[b]? = some (.cells #[.map (some s.ma), .map (some s.mq), .map (some s.mc), .map (some s.mw)] 88 (0, 0))
  all : MapIs vId vE w s.ma s.la
  keys : MapIs vS vG w s.mq s.lk
  clients : MapIs vK vG w s.mc s.lc
  wide : MapIs vId vT w s.mw s.lw
  grp : ∀ g ∈ s.gs, MapIs vId vT w g (s.gr g)
  nd : (s.blocks b).Nodup
theorem Ix.lt {w : World} {b : Nat} {s : IxS} (h : Ix w b s) : ∀ g ∈ s.blocks b, g < w.heap.size := fun g hg => by
  simp only [IxS.blocks, List.mem_cons] at hg
  rcases hg with rfl | rfl | rfl | rfl | rfl | hg
  · exact (Array.getElem?_eq_some_iff.1 h.cell).1
  · exact h.all.lt
  · exact h.keys.lt
  · exact h.clients.lt
  · exact h.wide.lt
  · exact (h.grp g hg).lt
theorem Ix.same {w w' : World} {b : Nat} {s : IxS} (h : Ix w b s) (k : ∀ g ∈ s.blocks b, w'.heap[g]? = w.heap[g]?) : Ix w' b s :=
  ⟨(k b (by simp [IxS.blocks])).trans h.cell, h.all.same (k _ (by simp [IxS.blocks])), h.keys.same (k _ (by simp [IxS.blocks])), h.clients.same (k _ (by simp [IxS.blocks])), h.wide.same (k _ (by simp [IxS.blocks])), fun g hg => (h.grp g hg).same (k _ (by simp [IxS.blocks, hg])), h.nd⟩
theorem Ix.keeps {w w' : World} {b : Nat} {s : IxS} (h : Ix w b s) {S : Nat → Prop} (k : Keeps S w w') (hS : ∀ g ∈ s.blocks b, ¬ S g) : Ix w' b s := h.same fun g hg => k.block g (h.lt g hg) (hS g hg)
theorem Ix.below {w w' : World} {b : Nat} {s : IxS} (h : Ix w b s) (k : Below w.heap.size w w') : Ix w' b s := h.same fun g hg => k.block g (h.lt g hg)
theorem Ix.ext {w w' : World} {b : Nat} {s : IxS} (h : Ix w b s) (k : Ext w w') : Ix w' b s := h.below k.below
theorem Ix.cells {w : World} {b : Nat} {s : IxS} (h : Ix w b s) : w.cell? ⟨b, 0, none⟩ = some (.map (some s.ma)) ∧ w.cell? ⟨b, 1, none⟩ = some (.map (some s.mq)) ∧ w.cell? ⟨b, 2, none⟩ = some (.map (some s.mc)) ∧ w.cell? ⟨b, 3, none⟩ = some (.map (some s.mw)) := by
  simp [World.cell?, h.cell]
/-- Which blocks differ. -/
theorem Ix.ne {w : World} {b : Nat} {s : IxS} (h : Ix w b s) : b ≠ s.ma ∧ b ≠ s.mq ∧ b ≠ s.mc ∧ b ≠ s.mw ∧ s.ma ≠ s.mq ∧ s.ma ≠ s.mc ∧ s.ma ≠ s.mw ∧ s.mq ≠ s.mc ∧ s.mq ≠ s.mw ∧ s.mc ≠ s.mw ∧ (∀ g ∈ s.gs, g ≠ b ∧ g ≠ s.ma ∧ g ≠ s.mq ∧ g ≠ s.mc ∧ g ≠ s.mw) ∧ s.gs.Nodup := by
  have h1 := h.nd
  simp only [IxS.blocks, List.nodup_cons, List.mem_cons, not_or] at h1
  obtain ⟨⟨a1, a2, a3, a4, a5⟩, ⟨b1, b2, b3, b4⟩, ⟨c1, c2, c3⟩, ⟨d1, d2⟩, e1, f1⟩ := h1
  exact ⟨a1, a2, a3, a4, b1, b2, b3, c1, c2, d1, fun g hg => ⟨fun e => a5 (e ▸ hg), fun e => b4 (e ▸ hg), fun e => c3 (e ▸ hg), fun e => d2 (e ▸ hg), fun e => e1 (e ▸ hg)⟩, f1⟩
theorem aget_mem {κ β : Type} [DecidableEq κ] {l : List (κ × β)} {x : κ} {v : β} (h : aget l x = some v) : ∃ p ∈ l, p.2 = v := by
  unfold aget at h
  cases hf : l.find? (fun p => decide (p.1 = x)) with
  | none => rw [hf] at h; cases h
  | some p =>
    rw [hf] at h
    exact ⟨p, List.mem_of_find?_eq_some hf, by simpa using h⟩
def upd (f : Nat → List (Id × Unit)) (g : Nat) (l : List (Id × Unit)) : Nat → List (Id × Unit) := fun x => if x = g then l else f x
theorem Ix.setAll {w w' : World} {b : Nat} {s : IxS} (h : Ix w b s) {la : List (Id × CE)} (hm : MapIs vId vE w' s.ma la) (k : Keeps (· = s.ma) w w') : Ix w' b { s with la := la } := by
  obtain ⟨a1, a2, a3, a4, b1, b2, b3, c1, c2, d1, hg, hn⟩ := h.ne
  have hk : ∀ g ∈ s.blocks b, g ≠ s.ma → w'.heap[g]? = w.heap[g]? := fun g hg hne => k.block g (h.lt g hg) hne
  exact ⟨(hk b (by simp [IxS.blocks]) a1).trans h.cell, hm, h.keys.same (hk _ (by simp [IxS.blocks]) b1.symm), h.clients.same (hk _ (by simp [IxS.blocks]) b2.symm), h.wide.same (hk _ (by simp [IxS.blocks]) b3.symm), fun g hg' => (h.grp g hg').same (hk _ (List.mem_cons_of_mem _ (List.mem_cons_of_mem _ (List.mem_cons_of_mem _ (List.mem_cons_of_mem _ (List.mem_cons_of_mem _ hg'))))) (hg g hg').2.1), h.nd⟩
theorem Ix.setWide {w w' : World} {b : Nat} {s : IxS} (h : Ix w b s) {lw : List (Id × Unit)} (hm : MapIs vId vT w' s.mw lw) (k : Keeps (· = s.mw) w w') : Ix w' b { s with lw := lw } := by
  obtain ⟨a1, a2, a3, a4, b1, b2, b3, c1, c2, d1, hg, hn⟩ := h.ne
  have hk : ∀ g ∈ s.blocks b, g ≠ s.mw → w'.heap[g]? = w.heap[g]? := fun g hg hne => k.block g (h.lt g hg) hne
  exact ⟨(hk b (by simp [IxS.blocks]) a4).trans h.cell, h.all.same (hk _ (by simp [IxS.blocks]) b3), h.keys.same (hk _ (by simp [IxS.blocks]) c2), h.clients.same (hk _ (by simp [IxS.blocks]) d1), hm, fun g hg' => (h.grp g hg').same (hk _ (List.mem_cons_of_mem _ (List.mem_cons_of_mem _ (List.mem_cons_of_mem _ (List.mem_cons_of_mem _ (List.mem_cons_of_mem _ hg'))))) (hg g hg').2.2.2.2), h.nd⟩
theorem Ix.setGrp {w w' : World} {b g : Nat} {s : IxS} (h : Ix w b s) (hg0 : g ∈ s.gs) {l : List (Id × Unit)} (hm : MapIs vId vT w' g l) (k : Keeps (· = g) w w') : Ix w' b { s with gr := upd s.gr g l } := by
  obtain ⟨a1, a2, a3, a4, b1, b2, b3, c1, c2, d1, hg, hn⟩ := h.ne
  obtain ⟨g1, g2, g3, g4, g5⟩ := hg g hg0
  have hk : ∀ x ∈ s.blocks b, x ≠ g → w'.heap[x]? = w.heap[x]? := fun x hx hne => k.block x (h.lt x hx) hne
  refine ⟨(hk b (by simp [IxS.blocks]) g1.symm).trans h.cell, h.all.same (hk _ (by simp [IxS.blocks]) g2.symm), h.keys.same (hk _ (by simp [IxS.blocks]) g3.symm), h.clients.same (hk _ (by simp [IxS.blocks]) g4.symm), h.wide.same (hk _ (by simp [IxS.blocks]) g5.symm), fun x hx => ?_, h.nd⟩
  by_cases hxg : x = g
  · subst hxg
    simp only [upd, if_true]
    exact hm
  · simp only [upd, if_neg hxg]
    exact (h.grp x hx).same (hk _ (List.mem_cons_of_mem _ (List.mem_cons_of_mem _ (List.mem_cons_of_mem _ (List.mem_cons_of_mem _ (List.mem_cons_of_mem _ hx))))) hxg)
theorem nodup_mid {b a1 a2 a3 a4 n : Nat} {l k : List Nat} (h : (b :: a1 :: a2 :: a3 :: a4 :: (l ++ k)).Nodup) (hn : n ∉ b :: a1 :: a2 :: a3 :: a4 :: (l ++ k)) : (b :: a1 :: a2 :: a3 :: a4 :: ((l ++ [n]) ++ k)).Nodup := by
  have hp : (b :: a1 :: a2 :: a3 :: a4 :: ((l ++ [n]) ++ k)).Perm (n :: b :: a1 :: a2 :: a3 :: a4 :: (l ++ k)) := by
    have : b :: a1 :: a2 :: a3 :: a4 :: ((l ++ [n]) ++ k) = (b :: a1 :: a2 :: a3 :: a4 :: l) ++ n :: k := by simp
    rw [this]
    exact List.perm_middle
  exact hp.nodup_iff.2 (List.nodup_cons.2 ⟨hn, h⟩)
theorem nodup_end {b a1 a2 a3 a4 n : Nat} {l k : List Nat} (h : (b :: a1 :: a2 :: a3 :: a4 :: (l ++ k)).Nodup) (hn : n ∉ b :: a1 :: a2 :: a3 :: a4 :: (l ++ k)) : (b :: a1 :: a2 :: a3 :: a4 :: (l ++ (k ++ [n]))).Nodup := by
  have hp : (b :: a1 :: a2 :: a3 :: a4 :: (l ++ (k ++ [n]))).Perm (n :: b :: a1 :: a2 :: a3 :: a4 :: (l ++ k)) := by
    have : b :: a1 :: a2 :: a3 :: a4 :: (l ++ (k ++ [n])) = (b :: a1 :: a2 :: a3 :: a4 :: (l ++ k)) ++ n :: [] := by simp
    rw [this]
    refine List.perm_middle.trans ?_
    simp
  exact hp.nodup_iff.2 (List.nodup_cons.2 ⟨hn, h⟩)

theorem Ix.newK {w w' : World} {b n : Nat} {s : IxS} (h : Ix w b s) (x : SKey) {l : List (Id × Unit)} (hm : MapIs vS vG w' s.mq (s.lk ++ [(x, n)])) (hl : MapIs vId vT w' n l) (k : Keeps (· = s.mq) w w') (hn : w.heap.size ≤ n) : Ix w' b { s with lk := s.lk ++ [(x, n)], gr := upd s.gr n l } := by
  obtain ⟨a1, a2, a3, a4, b1, b2, b3, c1, c2, d1, hg, _⟩ := h.ne
  have hk : ∀ g ∈ s.blocks b, g ≠ s.mq → w'.heap[g]? = w.heap[g]? := fun g hg hne => k.block g (h.lt g hg) hne
  have hnn : n ∉ s.blocks b := fun hx => by have := h.lt n hx; omega
  refine ⟨(hk b (by simp [IxS.blocks]) a2).trans h.cell, h.all.same (hk _ (by simp [IxS.blocks]) b1), hm, h.clients.same (hk _ (by simp [IxS.blocks]) c1.symm), h.wide.same (hk _ (by simp [IxS.blocks]) c2.symm), fun g hg' => ?_, ?_⟩
  · by_cases hgn : g = n
    · subst hgn
      simp only [upd, if_true]
      exact hl
    · simp only [upd, if_neg hgn]
      have hgs : g ∈ s.gs := by
        simp only [IxS.gs, List.map_append, List.map_cons, List.map_nil, List.mem_append, List.mem_singleton] at hg' ⊢
        simpa [hgn] using hg'
      exact (h.grp g hgs).same (hk _ (List.mem_cons_of_mem _ (List.mem_cons_of_mem _ (List.mem_cons_of_mem _ (List.mem_cons_of_mem _ (List.mem_cons_of_mem _ hgs))))) (hg g hgs).2.2.1)
  · have := nodup_mid h.nd hnn
    simpa [IxS.blocks, IxS.gs] using this

theorem Ix.newC {w w' : World} {b n : Nat} {s : IxS} (h : Ix w b s) (x : IKey) {l : List (Id × Unit)} (hm : MapIs vK vG w' s.mc (s.lc ++ [(x, n)])) (hl : MapIs vId vT w' n l) (k : Keeps (· = s.mc) w w') (hn : w.heap.size ≤ n) : Ix w' b { s with lc := s.lc ++ [(x, n)], gr := upd s.gr n l } := by
  obtain ⟨a1, a2, a3, a4, b1, b2, b3, c1, c2, d1, hg, _⟩ := h.ne
  have hk : ∀ g ∈ s.blocks b, g ≠ s.mc → w'.heap[g]? = w.heap[g]? := fun g hg hne => k.block g (h.lt g hg) hne
  have hnn : n ∉ s.blocks b := fun hx => by have := h.lt n hx; omega
  refine ⟨(hk b (by simp [IxS.blocks]) a3).trans h.cell, h.all.same (hk _ (by simp [IxS.blocks]) b2), h.keys.same (hk _ (by simp [IxS.blocks]) c1), hm, h.wide.same (hk _ (by simp [IxS.blocks]) d1.symm), fun g hg' => ?_, ?_⟩
  · by_cases hgn : g = n
    · subst hgn
      simp only [upd, if_true]
      exact hl
    · simp only [upd, if_neg hgn]
      have hgs : g ∈ s.gs := by
        simp only [IxS.gs, List.map_append, List.map_cons, List.map_nil, List.mem_append, List.mem_singleton] at hg' ⊢
        simpa [hgn] using hg'
      exact (h.grp g hgs).same (hk _ (List.mem_cons_of_mem _ (List.mem_cons_of_mem _ (List.mem_cons_of_mem _ (List.mem_cons_of_mem _ (List.mem_cons_of_mem _ hgs))))) (hg g hgs).2.2.2.1)
  · have := nodup_end h.nd hnn
    simpa [IxS.blocks, IxS.gs] using this

set_option maxRecDepth 100000 in
set_option maxHeartbeats 1600000 in
theorem IxNew_any (w : World) : Calls Try.prog 23 #[] w fun e w' => ∃ b s, e = .returned (.pointer (some ⟨b, 0, none⟩)) ∧ Ix w' b s ∧ s.la = [] ∧ s.lk = [] ∧ s.lc = [] ∧ s.lw = [] ∧ Ext w w' ∧ ∀ g ∈ s.blocks b, w.heap.size ≤ g := by
  have hmm := @run_makeMap Try.prog
  go_enter Try.func23, Try.ntmps23
  go_wp2
  go_ret
  refine ⟨w.heap.size + 4, ⟨w.heap.size, w.heap.size + 1, w.heap.size + 2, w.heap.size + 3, [], [], [], [], fun _ => []⟩, rfl, ⟨?_, ?_, ?_, ?_, ?_, ?_, ?_⟩, rfl, rfl, rfl, rfl, (((((Ext.refl w).alloc _).alloc _).alloc _).alloc _).alloc _, ?_⟩
  · have := heap_alloc_new ((((w.alloc (.map #[] 0)).alloc (.map #[] 0)).alloc (.map #[] 0)).alloc (.map #[] 0)) (.cells #[.map (some w.heap.size), .map (some (w.heap.size + 1)), .map (some (w.heap.size + 2)), .map (some (w.heap.size + 3))] 88)
    simpa using this
  · exact (MapIs.made w vId vE).same ((((((Ext.refl (w.alloc (.map #[] 0))).alloc _).alloc _).alloc _).alloc _).block _ (by simp))
  · have := (MapIs.made (w.alloc (.map #[] 0)) vS vG).same (((((Ext.refl ((w.alloc (.map #[] 0)).alloc (.map #[] 0))).alloc (.map #[] 0)).alloc (.map #[] 0)).alloc (.cells #[.map (some w.heap.size), .map (some (w.heap.size + 1)), .map (some (w.heap.size + 2)), .map (some (w.heap.size + 3))] 88)).block _ (by simp))
    simpa using this
  · have := (MapIs.made ((w.alloc (.map #[] 0)).alloc (.map #[] 0)) vK vG).same ((((Ext.refl (((w.alloc (.map #[] 0)).alloc (.map #[] 0)).alloc (.map #[] 0))).alloc (.map #[] 0)).alloc (.cells #[.map (some w.heap.size), .map (some (w.heap.size + 1)), .map (some (w.heap.size + 2)), .map (some (w.heap.size + 3))] 88)).block _ (by simp))
    simpa using this
  · have := (MapIs.made (((w.alloc (.map #[] 0)).alloc (.map #[] 0)).alloc (.map #[] 0)) vId vT).same (((Ext.refl ((((w.alloc (.map #[] 0)).alloc (.map #[] 0)).alloc (.map #[] 0)).alloc (.map #[] 0))).alloc (.cells #[.map (some w.heap.size), .map (some (w.heap.size + 1)), .map (some (w.heap.size + 2)), .map (some (w.heap.size + 3))] 88)).block _ (by simp))
    simpa using this
  · intro g hg
    simp [IxS.gs] at hg
  · simp [IxS.blocks, IxS.gs]
  · intro g hg
    simp only [IxS.blocks, IxS.gs, List.map_nil, List.append_nil, List.mem_cons, List.not_mem_nil, or_false] at hg
    omega

set_option maxRecDepth 100000 in
set_option maxHeartbeats 1600000 in
theorem IxLen_any (w : World) (b : Nat) (s : IxS) (h : Ix w b s) :
    Calls Try.prog 27 #[.pointer (some ⟨b, 0, none⟩)] w fun e w' => e = .returned (.int .i64 s.la.length) ∧ w' = w := by
  obtain ⟨c0, _⟩ := h.cells
  have hl := h.all.len ⟨_, _, Try.underlying82⟩ 3
  generalize s.la.length = n at hl ⊢
  clear h
  go_enter Try.func27, Try.ntmps27
  go_wp2
  go_ret
  exact ⟨rfl, rfl⟩

set_option maxRecDepth 100000 in
set_option maxHeartbeats 1600000 in
theorem inS_old (w : World) (m g : Nat) (l : List (SKey × Nat)) (lg : List (Id × Unit)) (k : SKey) (i : Id) (h : MapIs vS vG w m l) (hg : aget l k = some g) (hG : MapIs vId vT w g lg) :
    Calls Try.prog 42 #[.map (some m), .string k.1, .agg #[.int .i64 i.r, .int .i64 i.n]] w fun e w' => e = .returned (.tuple #[]) ∧ MapIs vId vT w' g (aput lg i ()) ∧ Keeps (· = g) w w' := by
  have hE0 : Ext w (w.alloc (.cells #[.int .i64 i.r, .int .i64 i.n] 28)) := (Ext.refl w).alloc _
  have hl0 := (h.same (hE0.block _ h.lt)).lookup keyS Try.underlying83 (zeroG _) k false
  have hl1 := (h.same (w' := (w.alloc (.cells #[.int .i64 i.r, .int .i64 i.n] 28)).drew) (hE0.block _ h.lt)).lookup keyS Try.underlying83 (zeroG _) k false
  have hq : ∀ W, (binOp .eql 86 (.map (some g)) (.map none)).run Try.prog W = .ok (.bool false) W := fun W => run_eql_map_nil W _ _ _ _ Try.underlying86
  rw [hg] at hl0 hl1
  simp only [Option.map_some, Option.getD_some, Bool.false_eq_true, if_false, vG, vS] at hl0 hl1
  obtain ⟨es, c, hu, hr⟩ := (hG.same (hE0.block _ hG.lt)).update keyId Try.underlying86 i ()
  obtain ⟨es1, c1, hu1, hr1⟩ := (hG.same (w' := (w.alloc (.cells #[.int .i64 i.r, .int .i64 i.n] 28)).drew) (hE0.block _ hG.lt)).update keyId Try.underlying86 i ()
  simp only [vId, vT] at hu hu1
  clear h hG
  go_enter Try.func42, Try.ntmps42
  go_wp2
  go_end0
  exact ⟨rfl, hr, ((Keeps.refl (· = g) w).alloc _).setBlock (fun _ => rfl) _⟩
set_option maxRecDepth 100000 in
set_option maxHeartbeats 1600000 in
theorem inS_new (w : World) (m : Nat) (l : List (SKey × Nat)) (k : SKey) (i : Id) (h : MapIs vS vG w m l) (hg : aget l k = none) :
    Calls Try.prog 42 #[.map (some m), .string k.1, .agg #[.int .i64 i.r, .int .i64 i.n]] w fun e w' => e = .returned (.tuple #[]) ∧ ∃ n, w.heap.size ≤ n ∧ n < w'.heap.size ∧ MapIs vS vG w' m (l ++ [(k, n)]) ∧ MapIs vId vT w' n [(i, ())] ∧ Keeps (· = m) w w' := by
  have hmm := @run_makeMap Try.prog
  have hE0 : Ext w (w.alloc (.cells #[.int .i64 i.r, .int .i64 i.n] 28)) := (Ext.refl w).alloc _
  have hml := h.lt
  have hl0 := (h.same (hE0.block _ h.lt)).lookup keyS Try.underlying83 (zeroG _) k false
  have hq : ∀ W, (binOp .eql 86 (.map none) (.map none)).run Try.prog W = .ok (.bool true) W := fun W => run_eql_map_nil W _ _ _ _ Try.underlying86
  have hE2 : Ext w ((w.alloc (.cells #[.int .i64 i.r, .int .i64 i.n] 28)).alloc (.map #[] 0)) := hE0.alloc _
  have hM2 : MapIs vId vT ((w.alloc (.cells #[.int .i64 i.r, .int .i64 i.n] 28)).alloc (.map #[] 0)) (w.heap.size + 1) [] := by
    have := MapIs.made (w.alloc (.cells #[.int .i64 i.r, .int .i64 i.n] 28)) vId vT
    simpa using this
  obtain ⟨es, c, hu, hr⟩ := (h.same (hE2.block _ h.lt)).update keyS Try.underlying83 k (w.heap.size + 1)
  have hap : aput l k (w.heap.size + 1) = l ++ [(k, w.heap.size + 1)] := by
    unfold aput
    rw [ahas_eq, hg]
    rfl
  rw [hap] at hr
  have hl1 := hr.lookup keyS Try.underlying83 (zeroG _) k false
  have hget : aget (l ++ [(k, w.heap.size + 1)]) k = some (w.heap.size + 1) := aget_some hr.nodup (p := (k, w.heap.size + 1)) (by simp)
  have hMr := hM2.same (setBlock_other ((w.alloc (.cells #[.int .i64 i.r, .int .i64 i.n] 28)).alloc (.map #[] 0)) m (.map es c) (by omega))
  obtain ⟨es1, c1, hu1, hr1⟩ := hMr.update keyId Try.underlying86 i ()
  rw [hg] at hl0
  rw [hget] at hl1
  simp only [Option.map_some, Option.map_none, Option.getD_some, Option.getD_none, Bool.false_eq_true, if_false, vG, vS] at hl0 hl1 hu
  simp only [vId, vT] at hu1
  have d0 : (setBlock ((w.alloc (.cells #[.int .i64 i.r, .int .i64 i.n] 28)).alloc (.map #[] 0)) m (.map es c)).cell? ⟨w.heap.size, 0, none⟩ = some (.int .i64 i.r) := by
    rw [World.cell?_of_block (w := ((w.alloc (.cells #[.int .i64 i.r, .int .i64 i.n] 28)).alloc (.map #[] 0))) (a := ⟨w.heap.size, 0, none⟩) (setBlock_other _ m _ (by simp only; omega))]; simp
  have d1 : (setBlock ((w.alloc (.cells #[.int .i64 i.r, .int .i64 i.n] 28)).alloc (.map #[] 0)) m (.map es c)).cell? ⟨w.heap.size, 1, none⟩ = some (.int .i64 i.n) := by
    rw [World.cell?_of_block (w := ((w.alloc (.cells #[.int .i64 i.r, .int .i64 i.n] 28)).alloc (.map #[] 0))) (a := ⟨w.heap.size, 1, none⟩) (setBlock_other _ m _ (by simp only; omega))]; simp
  have HR := hid hr
  have HR1 := hid hr1
  clear h hr hr1 hM2 hMr hap hget hE0
  go_enter Try.func42, Try.ntmps42
  go_wp2
  go_end0
  refine ⟨rfl, w.heap.size + 1, by omega, HR1.out.lt, HR.out.same (setBlock_other _ _ _ (by omega)), HR1.out, ((((Keeps.refl (· = m) w).alloc _).alloc _).setBlock (fun _ => rfl) _).setBlock (fun h => absurd h (by omega)) _⟩

set_option maxRecDepth 100000 in
set_option maxHeartbeats 1600000 in
theorem inK_old (w : World) (m g : Nat) (l : List (IKey × Nat)) (lg : List (Id × Unit)) (k : IKey) (i : Id) (h : MapIs vK vG w m l) (hg : aget l k = some g) (hG : MapIs vId vT w g lg) :
    Calls Try.prog 43 #[.map (some m), .int .i64 k.1, .agg #[.int .i64 i.r, .int .i64 i.n]] w fun e w' => e = .returned (.tuple #[]) ∧ MapIs vId vT w' g (aput lg i ()) ∧ Keeps (· = g) w w' := by
  have hE0 : Ext w (w.alloc (.cells #[.int .i64 i.r, .int .i64 i.n] 28)) := (Ext.refl w).alloc _
  have hl0 := (h.same (hE0.block _ h.lt)).lookup keyK Try.underlying84 (zeroG _) k false
  have hl1 := (h.same (w' := (w.alloc (.cells #[.int .i64 i.r, .int .i64 i.n] 28)).drew) (hE0.block _ h.lt)).lookup keyK Try.underlying84 (zeroG _) k false
  have hq : ∀ W, (binOp .eql 86 (.map (some g)) (.map none)).run Try.prog W = .ok (.bool false) W := fun W => run_eql_map_nil W _ _ _ _ Try.underlying86
  rw [hg] at hl0 hl1
  simp only [Option.map_some, Option.getD_some, Bool.false_eq_true, if_false, vG, vK] at hl0 hl1
  obtain ⟨es, c, hu, hr⟩ := (hG.same (hE0.block _ hG.lt)).update keyId Try.underlying86 i ()
  obtain ⟨es1, c1, hu1, hr1⟩ := (hG.same (w' := (w.alloc (.cells #[.int .i64 i.r, .int .i64 i.n] 28)).drew) (hE0.block _ hG.lt)).update keyId Try.underlying86 i ()
  simp only [vId, vT] at hu hu1
  clear h hG
  go_enter Try.func43, Try.ntmps43
  go_wp2
  go_end0
  exact ⟨rfl, hr, ((Keeps.refl (· = g) w).alloc _).setBlock (fun _ => rfl) _⟩
set_option maxRecDepth 100000 in
set_option maxHeartbeats 1600000 in
theorem inK_new (w : World) (m : Nat) (l : List (IKey × Nat)) (k : IKey) (i : Id) (h : MapIs vK vG w m l) (hg : aget l k = none) :
    Calls Try.prog 43 #[.map (some m), .int .i64 k.1, .agg #[.int .i64 i.r, .int .i64 i.n]] w fun e w' => e = .returned (.tuple #[]) ∧ ∃ n, w.heap.size ≤ n ∧ n < w'.heap.size ∧ MapIs vK vG w' m (l ++ [(k, n)]) ∧ MapIs vId vT w' n [(i, ())] ∧ Keeps (· = m) w w' := by
  have hmm := @run_makeMap Try.prog
  have hE0 : Ext w (w.alloc (.cells #[.int .i64 i.r, .int .i64 i.n] 28)) := (Ext.refl w).alloc _
  have hml := h.lt
  have hl0 := (h.same (hE0.block _ h.lt)).lookup keyK Try.underlying84 (zeroG _) k false
  have hq : ∀ W, (binOp .eql 86 (.map none) (.map none)).run Try.prog W = .ok (.bool true) W := fun W => run_eql_map_nil W _ _ _ _ Try.underlying86
  have hE2 : Ext w ((w.alloc (.cells #[.int .i64 i.r, .int .i64 i.n] 28)).alloc (.map #[] 0)) := hE0.alloc _
  have hM2 : MapIs vId vT ((w.alloc (.cells #[.int .i64 i.r, .int .i64 i.n] 28)).alloc (.map #[] 0)) (w.heap.size + 1) [] := by
    have := MapIs.made (w.alloc (.cells #[.int .i64 i.r, .int .i64 i.n] 28)) vId vT
    simpa using this
  obtain ⟨es, c, hu, hr⟩ := (h.same (hE2.block _ h.lt)).update keyK Try.underlying84 k (w.heap.size + 1)
  have hap : aput l k (w.heap.size + 1) = l ++ [(k, w.heap.size + 1)] := by
    unfold aput
    rw [ahas_eq, hg]
    rfl
  rw [hap] at hr
  have hl1 := hr.lookup keyK Try.underlying84 (zeroG _) k false
  have hget : aget (l ++ [(k, w.heap.size + 1)]) k = some (w.heap.size + 1) := aget_some hr.nodup (p := (k, w.heap.size + 1)) (by simp)
  have hMr := hM2.same (setBlock_other ((w.alloc (.cells #[.int .i64 i.r, .int .i64 i.n] 28)).alloc (.map #[] 0)) m (.map es c) (by omega))
  obtain ⟨es1, c1, hu1, hr1⟩ := hMr.update keyId Try.underlying86 i ()
  rw [hg] at hl0
  rw [hget] at hl1
  simp only [Option.map_some, Option.map_none, Option.getD_some, Option.getD_none, Bool.false_eq_true, if_false, vG, vK] at hl0 hl1 hu
  simp only [vId, vT] at hu1
  have d0 : (setBlock ((w.alloc (.cells #[.int .i64 i.r, .int .i64 i.n] 28)).alloc (.map #[] 0)) m (.map es c)).cell? ⟨w.heap.size, 0, none⟩ = some (.int .i64 i.r) := by
    rw [World.cell?_of_block (w := ((w.alloc (.cells #[.int .i64 i.r, .int .i64 i.n] 28)).alloc (.map #[] 0))) (a := ⟨w.heap.size, 0, none⟩) (setBlock_other _ m _ (by simp only; omega))]; simp
  have d1 : (setBlock ((w.alloc (.cells #[.int .i64 i.r, .int .i64 i.n] 28)).alloc (.map #[] 0)) m (.map es c)).cell? ⟨w.heap.size, 1, none⟩ = some (.int .i64 i.n) := by
    rw [World.cell?_of_block (w := ((w.alloc (.cells #[.int .i64 i.r, .int .i64 i.n] 28)).alloc (.map #[] 0))) (a := ⟨w.heap.size, 1, none⟩) (setBlock_other _ m _ (by simp only; omega))]; simp
  have HR := hid hr
  have HR1 := hid hr1
  clear h hr hr1 hM2 hMr hap hget hE0
  go_enter Try.func43, Try.ntmps43
  go_wp2
  go_end0
  refine ⟨rfl, w.heap.size + 1, by omega, HR1.out.lt, HR.out.same (setBlock_other _ _ _ (by omega)), HR1.out, ((((Keeps.refl (· = m) w).alloc _).alloc _).setBlock (fun _ => rfl) _).setBlock (fun h => absurd h (by omega)) _⟩

set_option maxRecDepth 100000 in
set_option maxHeartbeats 1600000 in
theorem IxDrop_none (w : World) (b : Nat) (s : IxS) (i : Id) (h : Ix w b s) (hi : aget s.la i = none) :
    Calls Try.prog 26 #[.pointer (some ⟨b, 0, none⟩), .agg #[.int .i64 i.r, .int .i64 i.n]] w fun e w' => e = .returned (.tuple #[]) ∧ Ext w w' := by
  obtain ⟨x0, x1, x2, x3⟩ := h.cells
  have hb := h.lt b (by simp [IxS.blocks])
  have hl := (h.all.same (w' := ((w.alloc (.cells #[.int .i64 i.r, .int .i64 i.n] 28)).alloc (.cells #[.int .i64 0, .int .i64 0, .int .i64 0, .string ⟨#[]⟩, .string ⟨#[]⟩, .int .i64 0, .int .i64 0] 90)).drew) ((((Ext.refl w).alloc _).alloc _).drew.block _ h.all.lt)).lookup keyId Try.underlying82 (zeroE _) i true
  have hl' := (h.all.same (w' := (w.alloc (.cells #[.int .i64 i.r, .int .i64 i.n] 28)).drew) (((Ext.refl w).alloc _).drew.block _ h.all.lt)).lookup keyId Try.underlying82 (zeroE _) i true
  rw [ahas_eq, hi] at hl hl'
  simp only [Option.map_none, Option.getD_none, if_true, zE, vId, Option.isSome_none] at hl hl'
  clear h hi x1 x2 x3
  go_enter Try.func26, Try.ntmps26
  go_wp2
  go_region
  go_wp2
  all_goals
    ((try simp only [Exit.inBlock, Exit.then]); refine bodyPost_ret (results_none rfl _ _ _) rfl ?_)
    exact ⟨rfl, (((Ext.refl w).alloc _).alloc _).drew⟩

/-- What is left without an id. -/
def IxS.drop (s : IxS) (i : Id) (gk gc : Nat) : IxS := { s with la := adel s.la i, lw := adel s.lw i, gr := upd (upd s.gr gk (adel (s.gr gk) i)) gc (adel (s.gr gc) i) }
set_option maxRecDepth 100000 in
set_option maxHeartbeats 1600000 in
theorem IxDrop_some (w : World) (b : Nat) (s : IxS) (i : Id) (c : Cmd) (q : Int) (gk gc : Nat) (h : Ix w b s) (hi : aget s.la i = some (c, q)) (hk : aget s.lk ⟨c.key, c.hk⟩ = some gk) (hc : aget s.lc ⟨c.client, c.hc⟩ = some gc) :
    Calls Try.prog 26 #[.pointer (some ⟨b, 0, none⟩), .agg #[.int .i64 i.r, .int .i64 i.n]] w fun e w' => e = .returned (.tuple #[]) ∧ Ix w' b (s.drop i gk gc) ∧ Keeps (· ∈ s.blocks b) w w' := by
  obtain ⟨x0, x1, x2, x3⟩ := h.cells
  have hb := h.lt b (by simp [IxS.blocks])
  have hl := (h.all.same (w' := ((w.alloc (.cells #[.int .i64 i.r, .int .i64 i.n] 28)).alloc (.cells #[.int .i64 0, .int .i64 0, .int .i64 0, .string ⟨#[]⟩, .string ⟨#[]⟩, .int .i64 0, .int .i64 0] 90)).drew) ((((Ext.refl w).alloc _).alloc _).drew.block _ h.all.lt)).lookup keyId Try.underlying82 (zeroE _) i true
  have hl' := (h.all.same (w' := (w.alloc (.cells #[.int .i64 i.r, .int .i64 i.n] 28)).drew) (((Ext.refl w).alloc _).drew.block _ h.all.lt)).lookup keyId Try.underlying82 (zeroE _) i true
  rw [ahas_eq, hi] at hl hl'
  simp only [Option.map_some, Option.getD_some, if_true, vE, vId, Option.isSome_some] at hl hl'
  have hgk : gk ∈ s.gs := by
    obtain ⟨p, hp, hpk⟩ := aget_mem hk
    simp only [IxS.gs, List.mem_append, List.mem_map]
    exact Or.inl ⟨p, hp, hpk⟩
  have hgc : gc ∈ s.gs := by
    obtain ⟨p, hp, hpk⟩ := aget_mem hc
    simp only [IxS.gs, List.mem_append, List.mem_map]
    exact Or.inr ⟨p, hp, hpk⟩
  have hgkc : gk ≠ gc := by
    obtain ⟨p, hp, hpk⟩ := aget_mem hk
    obtain ⟨p', hp', hpc⟩ := aget_mem hc
    intro e
    have := h.ne.2.2.2.2.2.2.2.2.2.2.2
    rw [IxS.gs, List.nodup_append] at this
    exact this.2.2 gk (List.mem_map.2 ⟨p, hp, hpk⟩) gc (List.mem_map.2 ⟨p', hp', hpc⟩) e
  have HX := hid h
  have HK := hid hk
  have HC := hid hc
  clear h hi hk hc x1 x2 x3
  go_enter Try.func26, Try.ntmps26
  go_wp2
  go_region
  all_goals
    clear hl hl' x0
    obtain ⟨w1, hw1⟩ : ∃ w1 : World, w1 = ((w.alloc (.cells #[.int .i64 i.r, .int .i64 i.n] 28)).alloc (.cells #[.int .i64 c.kind, .int .i64 c.client, .int .i64 c.seq, .string c.key, .string c.val, .int .i64 c.rev, .int .i64 q] 90)).drew := ⟨_, rfl⟩
    have HE1 : Hid (Ext w w1) := by rw [hw1]; exact (((Ext.refl w).alloc _).alloc _).drew
    have hs1 : w1.heap.size = w.heap.size + 2 := by rw [hw1]; simp
    have d0 : w1.cell? ⟨w.heap.size, 0, none⟩ = some (.int .i64 i.r) := by rw [hw1]; simp
    have d1 : w1.cell? ⟨w.heap.size, 1, none⟩ = some (.int .i64 i.n) := by rw [hw1]; simp
    have e1 : w1.cell? ⟨w.heap.size + 1, 1, none⟩ = some (.int .i64 c.client) := by rw [hw1]; simp
    have e3 : w1.cell? ⟨w.heap.size + 1, 3, none⟩ = some (.string c.key) := by rw [hw1]; simp
    rw [← hw1]
    clear hw1
    have hI : Ix w1 b s := HX.out.ext HE1.out
    have lb := HX.out.lt
    have HKK : Hid (Keeps (· ∈ s.blocks b) w w1) := HE1.out.keeps
    obtain ⟨x0, x1, x2, x3⟩ := hI.cells
    obtain ⟨es, ck, hd, hm⟩ := (hI.all.same (w' := w1.drew) rfl).drop keyId Try.underlying82 (ty := 0) i
    simp only [vId] at hd
    have hI2 := (hI.ext ((Ext.refl _).drew)).setAll hm ((Keeps.refl (· = s.ma) _).setBlock (fun _ => rfl) _)
    have hK2 : Keeps (· = s.ma) w1 (setBlock w1.drew s.ma (.map es ck)) := ((Keeps.refl (· = s.ma) w1).drew).setBlock (fun _ => rfl) _
    have HI2 := hid hI2
    have HK2 := hid hK2
    clear hI hI2 hK2 hm
    go_wp2
    go_region
    obtain ⟨w2, hw⟩ : ∃ w2 : World, w2 = setBlock w1.drew s.ma (.map es ck) := ⟨_, rfl⟩
    rw [← hw] at HI2 HK2
    rw [← hw]
    clear hw hd x0 x1 x2 x3
    have hI := HI2.out
    have hlt : s.ma < w.heap.size := lb _ (by simp [IxS.blocks])
    replace d0 := HK2.out.cell (by omega) d0
    replace d1 := HK2.out.cell (by omega) d1
    replace e1 := HK2.out.cell (by omega) e1
    replace e3 := HK2.out.cell (by omega) e3
    have HKK := hid (HKK.out.trans (T := (· = s.ma)) HK2.out (fun k _ e => by subst e; exact by simp [IxS.blocks]))
    clear HI2 HK2 hlt es ck
    obtain ⟨x0, x1, x2, x3⟩ := hI.cells
    obtain ⟨es, ck, hd, hm⟩ := (hI.wide.same (w' := w2.drew) rfl).drop keyId Try.underlying86 (ty := 0) i
    simp only [vId] at hd
    have hI2 := (hI.ext ((Ext.refl _).drew)).setWide hm ((Keeps.refl (· = s.mw) _).setBlock (fun _ => rfl) _)
    have hK2 : Keeps (· = s.mw) w2 (setBlock w2.drew s.mw (.map es ck)) := ((Keeps.refl (· = s.mw) w2).drew).setBlock (fun _ => rfl) _
    have HI2 := hid hI2
    have HK2 := hid hK2
    clear hI hI2 hK2 hm
    go_wp2
    go_region
    obtain ⟨w3, hw⟩ : ∃ w3 : World, w3 = setBlock w2.drew s.mw (.map es ck) := ⟨_, rfl⟩
    rw [← hw] at HI2 HK2
    rw [← hw]
    clear hw hd x0 x1 x2 x3
    have hI := HI2.out
    have hlt : s.mw < w.heap.size := lb _ (by simp [IxS.blocks])
    replace d0 := HK2.out.cell (by omega) d0
    replace d1 := HK2.out.cell (by omega) d1
    replace e1 := HK2.out.cell (by omega) e1
    replace e3 := HK2.out.cell (by omega) e3
    have HKK := hid (HKK.out.trans (T := (· = s.mw)) HK2.out (fun k _ e => by subst e; exact by simp [IxS.blocks]))
    clear HI2 HK2 hlt es ck
    obtain ⟨x0, x1, x2, x3⟩ := hI.cells
    obtain ⟨es, ck, hd, hm⟩ := ((hI.grp gk hgk).same (w' := w3.drew) rfl).drop keyId Try.underlying86 (ty := 0) i
    simp only [vId] at hd
    have hl := (hI.keys.same (w' := w3.drew) rfl).lookup keyS Try.underlying83 (zeroG _) ⟨c.key, c.hk⟩ false
    rw [HK.out] at hl
    simp only [Option.map_some, Option.getD_some, Bool.false_eq_true, if_false, vS, vG] at hl
    have hI2 := (hI.ext ((Ext.refl _).drew)).setGrp hgk hm ((Keeps.refl (· = gk) _).setBlock (fun _ => rfl) _)
    have hK2 : Keeps (· = gk) w3 (setBlock w3.drew gk (.map es ck)) := ((Keeps.refl (· = gk) w3).drew).setBlock (fun _ => rfl) _
    have HI2 := hid hI2
    have HK2 := hid hK2
    clear hI hI2 hK2 hm
    go_wp2
    go_region
    obtain ⟨w4, hw⟩ : ∃ w4 : World, w4 = setBlock w3.drew gk (.map es ck) := ⟨_, rfl⟩
    rw [← hw] at HI2 HK2
    rw [← hw]
    clear hw hd x0 x1 x2 x3 hl
    have hI := HI2.out
    have hlt : gk < w.heap.size := lb _ (by simp [IxS.blocks, hgk])
    replace d0 := HK2.out.cell (by omega) d0
    replace d1 := HK2.out.cell (by omega) d1
    replace e1 := HK2.out.cell (by omega) e1
    clear e3
    have HKK := hid (HKK.out.trans (T := (· = gk)) HK2.out (fun k _ e => by subst e; exact by simp [IxS.blocks, hgk]))
    clear HI2 HK2 hlt es ck
    obtain ⟨x0, x1, x2, x3⟩ := hI.cells
    obtain ⟨es, ck, hd, hm⟩ := ((hI.grp gc hgc).same (w' := w4.drew) rfl).drop keyId Try.underlying86 (ty := 0) i
    simp only [vId] at hd
    have hl := (hI.clients.same (w' := w4.drew) rfl).lookup keyK Try.underlying84 (zeroG _) ⟨c.client, c.hc⟩ false
    rw [HC.out] at hl
    simp only [Option.map_some, Option.getD_some, Bool.false_eq_true, if_false, vK, vG] at hl
    have hI2 := (hI.ext ((Ext.refl _).drew)).setGrp hgc hm ((Keeps.refl (· = gc) _).setBlock (fun _ => rfl) _)
    have hK2 : Keeps (· = gc) w4 (setBlock w4.drew gc (.map es ck)) := ((Keeps.refl (· = gc) w4).drew).setBlock (fun _ => rfl) _
    have HI2 := hid hI2
    have HK2 := hid hK2
    clear hI hI2 hK2 hm
    go_wp2
    go_region
    obtain ⟨w5, hw⟩ : ∃ w5 : World, w5 = setBlock w4.drew gc (.map es ck) := ⟨_, rfl⟩
    rw [← hw] at HI2 HK2
    rw [← hw]
    clear hw hd x0 x1 x2 x3 hl
    have hI := HI2.out
    have hlt : gc < w.heap.size := lb _ (by simp [IxS.blocks, hgc])
    clear d0 d1 e1
    have HKK := hid (HKK.out.trans (T := (· = gc)) HK2.out (fun k _ e => by subst e; exact by simp [IxS.blocks, hgc]))
    clear HI2 HK2 hlt es ck

    go_wp2
    go_end0
    refine ⟨rfl, ?_, HKK.out⟩
    have : upd (upd s.gr gk (adel (s.gr gk) i)) gc (adel (upd s.gr gk (adel (s.gr gk) i) gc) i) = upd (upd s.gr gk (adel (s.gr gk) i)) gc (adel (s.gr gc) i) := by
      have hne : ¬ gc = gk := fun e => hgkc e.symm
      simp only [upd, if_neg hne]
    unfold IxS.drop
    rw [← this]
    exact hI


/-- Which groups hold which ids. -/
structure InvG {κ : Type} [DecidableEq κ] (la : List (Id × CE)) (l : List (κ × Nat)) (gr : Nat → List (Id × Unit)) (key : CE → κ) : Prop where
  into : ∀ i e, aget la i = some e → ∃ g, aget l (key e) = some g ∧ ahas (gr g) i = true
  out : ∀ k g i, aget l k = some g → ahas (gr g) i = true → ∃ e, aget la i = some e ∧ key e = k
def kOf (e : CE) : SKey := ⟨e.1.key, e.1.hk⟩
def cOf (e : CE) : IKey := ⟨e.1.client, e.1.hc⟩
structure Inv (s : IxS) : Prop where
  k : InvG s.la s.lk s.gr kOf
  c : InvG s.la s.lc s.gr cOf
  w : ∀ i, ahas s.lw i = true ↔ ∃ e, aget s.la i = some e ∧ isWideB e.1 = true

theorem aget_adel {β : Type} (l : List (Id × β)) (i j : Id) : aget (adel l i) j = if j = i then none else aget l j := by
  unfold aget adel
  induction l with
  | nil => simp
  | cons p r ih =>
    by_cases hp : p.1 = i
    · rw [List.filter_cons_of_neg (by simpa using hp), ih]
      by_cases hj : j = i
      · rw [if_pos hj, if_pos hj]
      · rw [if_neg hj, if_neg hj, List.find?_cons_of_neg (by simp only [decide_eq_true_eq]; intro e; exact hj (e.symm.trans hp))]
    · rw [List.filter_cons_of_pos (by simpa using hp), List.find?_cons, List.find?_cons]
      by_cases hpj : p.1 = j
      · have : ¬ j = i := fun e => hp (hpj.trans e)
        simp [hpj, this]
      · simp only [hpj, decide_false]
        exact ih
theorem ahas_adel {β : Type} (l : List (Id × β)) (i j : Id) : ahas (adel l i) j = (!decide (j = i) && ahas l j) := by
  rw [ahas_eq, aget_adel, ahas_eq]
  by_cases h : j = i <;> simp [h]
theorem aget_snoc {κ β : Type} [DecidableEq κ] (l : List (κ × β)) (i j : κ) (v : β) (h : aget l i = none) : aget (l ++ [(i, v)]) j = if j = i then some v else aget l j := by
  unfold aget at *
  rw [List.find?_append]
  by_cases hj : j = i
  · subst hj
    rw [if_pos rfl]
    have : l.find? (fun p => decide (p.1 = j)) = none := by
      cases hf : l.find? (fun p => decide (p.1 = j)) with
      | none => rfl
      | some p => rw [hf] at h; cases h
    rw [this]
    simp
  · rw [if_neg hj]
    have : [(i, v)].find? (fun p => decide (p.1 = j)) = none := by
      rw [List.find?_eq_none]
      intro p hp
      rw [List.mem_singleton] at hp
      subst hp
      simpa using fun e => hj e.symm
    rw [this, Option.or_none]
theorem ahas_aput {κ β : Type} [DecidableEq κ] (l : List (κ × β)) (i j : κ) (v : β) : ahas (aput l i v) j = (decide (j = i) || ahas l j) := by
  unfold aput
  by_cases h : ahas l i = true
  · rw [if_pos h, Bool.eq_iff_iff, Bool.or_eq_true, decide_eq_true_eq, ahas_iff, ahas_iff]
    constructor
    · rintro ⟨p, hp, rfl⟩
      obtain ⟨q, hq, rfl⟩ := List.mem_map.1 hp
      by_cases hqi : q.1 = i
      · rw [if_pos hqi]; exact Or.inl rfl
      · rw [if_neg hqi]; exact Or.inr ⟨q, hq, rfl⟩
    · rintro (rfl | ⟨p, hp, rfl⟩)
      · obtain ⟨q, hq, hqi⟩ := ahas_iff.1 h
        exact ⟨_, List.mem_map.2 ⟨q, hq, rfl⟩, by rw [if_pos hqi]⟩
      · refine ⟨_, List.mem_map.2 ⟨p, hp, rfl⟩, ?_⟩
        by_cases hqi : p.1 = i
        · rw [if_pos hqi, hqi]
        · rw [if_neg hqi]
  · rw [if_neg h]
    unfold ahas
    rw [List.any_append, Bool.or_comm]
    simp [eq_comm]
theorem ahas_aget {κ β : Type} [DecidableEq κ] {l : List (κ × β)} {i : κ} : ahas l i = true ↔ ∃ e, aget l i = some e := by rw [ahas_eq, Option.isSome_iff_exists]
section
variable {κ : Type} [DecidableEq κ] {la : List (Id × CE)} {l : List (κ × Nat)} {gr gr' : Nat → List (Id × Unit)} {key : CE → κ} {i : Id} {e : CE} {g0 : Nat}
theorem InvG.frame (h : InvG la l gr key) (hg : ∀ k g, aget l k = some g → gr' g = gr g) : InvG la l gr' key :=
  ⟨fun i e he => by obtain ⟨g, h1, h2⟩ := h.into i e he; exact ⟨g, h1, by rw [hg _ _ h1]; exact h2⟩, fun k g i hk hi => h.out k g i hk (by rw [← hg _ _ hk]; exact hi)⟩
theorem InvG.drop (h : InvG la l gr key) (hi : aget la i = some e) (hg : aget l (key e) = some g0) (h1 : ∀ g x, ahas (gr' g) x = true → ahas (gr g) x = true) (h2 : ahas (gr' g0) i = false) (h3 : ∀ g x, x ≠ i → ahas (gr g) x = true → ahas (gr' g) x = true) : InvG (adel la i) l gr' key := by
  refine ⟨fun x e' hx => ?_, fun k g x hk hx => ?_⟩
  · rw [aget_adel] at hx
    by_cases hxi : x = i
    · rw [if_pos hxi] at hx; cases hx
    · rw [if_neg hxi] at hx
      obtain ⟨g, a1, a2⟩ := h.into x e' hx
      exact ⟨g, a1, h3 g x hxi a2⟩
  · obtain ⟨e', a1, a2⟩ := h.out k g x hk (h1 g x hx)
    by_cases hxi : x = i
    · exfalso
      subst hxi
      rw [hi] at a1
      cases a1
      rw [a2, hk] at hg
      cases hg
      rw [h2] at hx
      cases hx
    · exact ⟨e', by rw [aget_adel, if_neg hxi]; exact a1, a2⟩
theorem InvG.put_old (h : InvG la l gr key) (hi : aget la i = none) (hg : aget l (key e) = some g0) (hu : ∀ k, aget l k = some g0 → k = key e) (h1 : ∀ x, ahas (gr' g0) x = true ↔ x = i ∨ ahas (gr g0) x = true) (h2 : ∀ k g, aget l k = some g → g ≠ g0 → gr' g = gr g) : InvG (la ++ [(i, e)]) l gr' key := by
  refine ⟨fun x e' hx => ?_, fun k g x hk hx => ?_⟩
  · rw [aget_snoc la i x e hi] at hx
    by_cases hxi : x = i
    · rw [if_pos hxi] at hx
      cases hx
      exact ⟨g0, hg, (h1 x).2 (Or.inl hxi)⟩
    · rw [if_neg hxi] at hx
      obtain ⟨g, a1, a2⟩ := h.into x e' hx
      refine ⟨g, a1, ?_⟩
      by_cases hgg : g = g0
      · subst hgg; exact (h1 x).2 (Or.inr a2)
      · rw [h2 _ g a1 hgg]; exact a2
  · by_cases hgg : g = g0
    · subst hgg
      rcases (h1 x).1 hx with rfl | hx'
      · exact ⟨e, by rw [aget_snoc la x x e hi, if_pos rfl], (hu k hk).symm⟩
      · obtain ⟨e', a1, a2⟩ := h.out k g x hk hx'
        have hxi : x ≠ i := fun e0 => by rw [e0, hi] at a1; cases a1
        exact ⟨e', by rw [aget_snoc la i x e hi, if_neg hxi]; exact a1, a2⟩
    · rw [h2 k g hk hgg] at hx
      obtain ⟨e', a1, a2⟩ := h.out k g x hk hx
      have hxi : x ≠ i := fun e0 => by rw [e0, hi] at a1; cases a1
      exact ⟨e', by rw [aget_snoc la i x e hi, if_neg hxi]; exact a1, a2⟩
theorem InvG.put_new (h : InvG la l gr key) (hi : aget la i = none) (hg : aget l (key e) = none) (h1 : gr' g0 = [(i, ())]) (h2 : ∀ k g, aget l k = some g → gr' g = gr g) : InvG (la ++ [(i, e)]) (l ++ [(key e, g0)]) gr' key := by
  refine ⟨fun x e' hx => ?_, fun k g x hk hx => ?_⟩
  · rw [aget_snoc la i x e hi] at hx
    by_cases hxi : x = i
    · rw [if_pos hxi] at hx
      cases hx
      exact ⟨g0, by rw [aget_snoc l _ _ _ hg, if_pos rfl], by rw [h1, hxi]; simp [ahas]⟩
    · rw [if_neg hxi] at hx
      obtain ⟨g, a1, a2⟩ := h.into x e' hx
      refine ⟨g, ?_, by rw [h2 _ g a1]; exact a2⟩
      rw [aget_snoc l _ _ _ hg, if_neg (fun e0 => by rw [e0, hg] at a1; cases a1)]
      exact a1
  · rw [aget_snoc l _ _ _ hg] at hk
    by_cases hke : k = key e
    · rw [if_pos hke] at hk
      cases hk
      rw [h1] at hx
      have hxi : x = i := by simpa [ahas, eq_comm] using hx
      exact ⟨e, by rw [aget_snoc la i x e hi, if_pos hxi], hke.symm⟩
    · rw [if_neg hke] at hk
      rw [h2 k g hk] at hx
      obtain ⟨e', a1, a2⟩ := h.out k g x hk hx
      have hxi : x ≠ i := fun e0 => by rw [e0, hi] at a1; cases a1
      exact ⟨e', by rw [aget_snoc la i x e hi, if_neg hxi]; exact a1, a2⟩
end
theorem Inv.start {s : IxS} (h1 : s.la = []) (h2 : s.lk = []) (h3 : s.lc = []) (h4 : s.lw = []) : Inv s := by
  refine ⟨⟨fun i e h => ?_, fun k g i h => ?_⟩, ⟨fun i e h => ?_, fun k g i h => ?_⟩, fun i => ?_⟩
  · rw [h1] at h; cases h
  · rw [h2] at h; cases h
  · rw [h1] at h; cases h
  · rw [h3] at h; cases h
  · rw [h4, h1]
    simp [ahas, aget]
theorem mem_of_aget {κ β : Type} [DecidableEq κ] {l : List (κ × β)} {x : κ} {v : β} (h : aget l x = some v) : (x, v) ∈ l := by
  unfold aget at h
  cases hf : l.find? (fun p => decide (p.1 = x)) with
  | none => rw [hf] at h; cases h
  | some p =>
    rw [hf] at h
    have h1 := List.mem_of_find?_eq_some hf
    have h2 := List.find?_some hf
    simp only [decide_eq_true_eq] at h2
    simp only [Option.map_some, Option.some.injEq] at h
    rw [← h2, ← h]
    exact h1
theorem snd_nodup {κ : Type} {l : List (κ × Nat)} (h : (l.map (·.2)).Nodup) {k k' : κ} {g : Nat} (h1 : (k, g) ∈ l) (h2 : (k', g) ∈ l) : k = k' := by
  induction l with
  | nil => cases h1
  | cons p r ih =>
    rw [List.map_cons, List.nodup_cons] at h
    rcases List.mem_cons.1 h1 with rfl | q1 <;> rcases List.mem_cons.1 h2 with q2 | q2
    · cases q2; rfl
    · exact (h.1 (List.mem_map.2 ⟨_, q2, rfl⟩)).elim
    · subst q2; exact (h.1 (List.mem_map.2 ⟨_, q1, rfl⟩)).elim
    · exact ih h.2 q1 q2
/-- Groups of keys, groups of clients. -/
theorem Ix.gsK {w : World} {b g : Nat} {s : IxS} (_ : Ix w b s) {k : SKey} (hk : aget s.lk k = some g) : g ∈ s.gs := by
  simp only [IxS.gs, List.mem_append, List.mem_map]
  exact Or.inl ⟨_, mem_of_aget hk, rfl⟩
theorem Ix.gsC {w : World} {b g : Nat} {s : IxS} (_ : Ix w b s) {k : IKey} (hk : aget s.lc k = some g) : g ∈ s.gs := by
  simp only [IxS.gs, List.mem_append, List.mem_map]
  exact Or.inr ⟨_, mem_of_aget hk, rfl⟩
theorem Ix.part {w : World} {b g g' : Nat} {s : IxS} (h : Ix w b s) {k : SKey} {c : IKey} (hk : aget s.lk k = some g) (hc : aget s.lc c = some g') : g ≠ g' := by
  have := h.ne.2.2.2.2.2.2.2.2.2.2.2
  rw [IxS.gs, List.nodup_append] at this
  exact this.2.2 g (List.mem_map.2 ⟨_, mem_of_aget hk, rfl⟩) g' (List.mem_map.2 ⟨_, mem_of_aget hc, rfl⟩)
theorem Ix.oneK {w : World} {b g : Nat} {s : IxS} (h : Ix w b s) {k k' : SKey} (hk : aget s.lk k = some g) (hk' : aget s.lk k' = some g) : k = k' := by
  have := h.ne.2.2.2.2.2.2.2.2.2.2.2
  rw [IxS.gs, List.nodup_append] at this
  exact snd_nodup this.1 (mem_of_aget hk) (mem_of_aget hk')
theorem Ix.oneC {w : World} {b g : Nat} {s : IxS} (h : Ix w b s) {k k' : IKey} (hk : aget s.lc k = some g) (hk' : aget s.lc k' = some g) : k = k' := by
  have := h.ne.2.2.2.2.2.2.2.2.2.2.2
  rw [IxS.gs, List.nodup_append] at this
  exact snd_nodup this.2.1 (mem_of_aget hk) (mem_of_aget hk')
theorem Inv.drop {w : World} {b : Nat} {s : IxS} (h : Inv s) (hx : Ix w b s) {i : Id} {e : CE} (hi : aget s.la i = some e) {gk gc : Nat} (hk : aget s.lk (kOf e) = some gk) (hc : aget s.lc (cOf e) = some gc) : Inv (s.drop i gk gc) := by
  have hne := hx.part hk hc
  have a1 : ∀ g x, ahas ((s.drop i gk gc).gr g) x = true → ahas (s.gr g) x = true := fun g x hg => by
    unfold IxS.drop upd at hg
    simp only at hg
    split at hg
    · rename_i e0; subst e0; rw [ahas_adel] at hg; simp at hg; exact hg.2
    · split at hg
      · rename_i e0; subst e0; rw [ahas_adel] at hg; simp at hg; exact hg.2
      · exact hg
  have a2 : ∀ g x, x ≠ i → ahas (s.gr g) x = true → ahas ((s.drop i gk gc).gr g) x = true := fun g x hxi hg => by
    unfold IxS.drop upd
    simp only
    split
    · rename_i e0; subst e0; rw [ahas_adel]; simp [hxi, hg]
    · split
      · rename_i e0; subst e0; rw [ahas_adel]; simp [hxi, hg]
      · exact hg
  have a3 : ahas ((s.drop i gk gc).gr gk) i = false := by unfold IxS.drop upd; simp [hne, ahas_adel]
  have a4 : ahas ((s.drop i gk gc).gr gc) i = false := by unfold IxS.drop upd; simp [ahas_adel]
  refine ⟨h.k.drop hi hk a1 a3 a2, h.c.drop hi hc a1 a4 a2, fun x => ?_⟩
  show ahas (adel s.lw i) x = true ↔ ∃ e, aget (adel s.la i) x = some e ∧ isWideB e.1 = true
  rw [ahas_adel, aget_adel]
  by_cases hxi : x = i
  · simp [hxi]
  · rw [if_neg hxi, ← h.w x]
    simp [hxi]
theorem IxS.drop_blocks (s : IxS) (b : Nat) (i : Id) (gk gc : Nat) : (s.drop i gk gc).blocks b = s.blocks b := rfl

/-- Drop, as one contract. -/
theorem IxDrop_any (w : World) (b : Nat) (s : IxS) (i : Id) (h : Ix w b s) (hv : Inv s) :
    Calls Try.prog 26 #[.pointer (some ⟨b, 0, none⟩), .agg #[.int .i64 i.r, .int .i64 i.n]] w fun e w' => e = .returned (.tuple #[]) ∧ ∃ s', Ix w' b s' ∧ Inv s' ∧ s'.la = adel s.la i ∧ s'.blocks b = s.blocks b ∧ s'.lk = s.lk ∧ Keeps (· ∈ s.blocks b) w w' := by
  cases hi : aget s.la i with
  | none =>
    refine (IxDrop_none w b s i h hi).mono ?_
    rintro e w' ⟨rfl, hE⟩
    refine ⟨rfl, s, h.ext hE, hv, ?_, rfl, rfl, hE.keeps⟩
    unfold adel
    rw [List.filter_eq_self.2]
    intro p hp
    simp only [decide_eq_true_eq]
    intro e0
    have := ahas_iff.2 ⟨p, hp, e0⟩
    rw [ahas_eq, hi] at this
    cases this
  | some e =>
    obtain ⟨gk, hk, _⟩ := hv.k.into i e hi
    obtain ⟨gc, hc, _⟩ := hv.c.into i e hi
    refine (IxDrop_some w b s i e.1 e.2 gk gc h hi hk hc).mono ?_
    rintro e' w' ⟨rfl, hI, hK⟩
    exact ⟨rfl, _, hI, hv.drop h hi hk hc, rfl, rfl, rfl, hK⟩

/-- What in makes of an index. -/
def PutK (s s' : IxS) (i : Id) (k : SKey) (n0 : Nat) : Prop :=
  (∃ g, aget s.lk k = some g ∧ s' = { s with gr := upd s.gr g (aput (s.gr g) i ()) }) ∨ (aget s.lk k = none ∧ ∃ n, n0 ≤ n ∧ s' = { s with lk := s.lk ++ [(k, n)], gr := upd s.gr n [(i, ())] })
theorem inK_ix (w : World) (b : Nat) (s : IxS) (i : Id) (e : CE) (h : Ix w b s) :
    Calls Try.prog 42 #[.map (some s.mq), .string (kOf e).1, .agg #[.int .i64 i.r, .int .i64 i.n]] w fun e' w' => e' = .returned (.tuple #[]) ∧ ∃ s', Ix w' b s' ∧ PutK s s' i (kOf e) w.heap.size ∧ Keeps (· ∈ s.blocks b) w w' := by
  cases hg : aget s.lk (kOf e) with
  | some g =>
    have hgs := h.gsK hg
    refine (inS_old w s.mq g s.lk (s.gr g) (kOf e) i h.keys hg (h.grp g hgs)).mono ?_
    rintro e' w' ⟨rfl, hm, hk⟩
    exact ⟨rfl, _, h.setGrp hgs hm hk, Or.inl ⟨g, hg, rfl⟩, hk.mono (fun x _ hx => by subst hx; simp [IxS.blocks, hgs])⟩
  | none =>
    refine (inS_new w s.mq s.lk (kOf e) i h.keys hg).mono ?_
    rintro e' w' ⟨rfl, n, hn1, hn2, hm, hl, hk⟩
    exact ⟨rfl, _, h.newK (kOf e) hm hl hk hn1, Or.inr ⟨hg, n, hn1, rfl⟩, hk.mono (fun x _ hx => by subst hx; simp [IxS.blocks])⟩

/-- What in makes of an index. -/
def PutC (s s' : IxS) (i : Id) (k : IKey) (n0 : Nat) : Prop :=
  (∃ g, aget s.lc k = some g ∧ s' = { s with gr := upd s.gr g (aput (s.gr g) i ()) }) ∨ (aget s.lc k = none ∧ ∃ n, n0 ≤ n ∧ s' = { s with lc := s.lc ++ [(k, n)], gr := upd s.gr n [(i, ())] })
theorem inC_ix (w : World) (b : Nat) (s : IxS) (i : Id) (e : CE) (h : Ix w b s) :
    Calls Try.prog 43 #[.map (some s.mc), .int .i64 (cOf e).1, .agg #[.int .i64 i.r, .int .i64 i.n]] w fun e' w' => e' = .returned (.tuple #[]) ∧ ∃ s', Ix w' b s' ∧ PutC s s' i (cOf e) w.heap.size ∧ Keeps (· ∈ s.blocks b) w w' := by
  cases hg : aget s.lc (cOf e) with
  | some g =>
    have hgs := h.gsC hg
    refine (inK_old w s.mc g s.lc (s.gr g) (cOf e) i h.clients hg (h.grp g hgs)).mono ?_
    rintro e' w' ⟨rfl, hm, hk⟩
    exact ⟨rfl, _, h.setGrp hgs hm hk, Or.inl ⟨g, hg, rfl⟩, hk.mono (fun x _ hx => by subst hx; simp [IxS.blocks, hgs])⟩
  | none =>
    refine (inK_new w s.mc s.lc (cOf e) i h.clients hg).mono ?_
    rintro e' w' ⟨rfl, n, hn1, hn2, hm, hl, hk⟩
    exact ⟨rfl, _, h.newC (cOf e) hm hl hk hn1, Or.inr ⟨hg, n, hn1, rfl⟩, hk.mono (fun x _ hx => by subst hx; simp [IxS.blocks])⟩


theorem PutK.blocks {s s' : IxS} {i : Id} {k : SKey} {n0 : Nat} (h : PutK s s' i k n0) (b : Nat) : ∀ g ∈ s'.blocks b, g ∈ s.blocks b ∨ n0 ≤ g := by
  rcases h with ⟨g, hg, rfl⟩ | ⟨hg, n, hn, rfl⟩
  · exact fun x hx => Or.inl hx
  · intro x hx
    simp only [IxS.blocks, IxS.gs, List.map_append, List.map_cons, List.map_nil, List.mem_cons, List.mem_append, List.not_mem_nil, or_false] at hx ⊢
    rcases hx with hx | hx | hx | hx | hx | (hx | rfl) | hx
    · exact Or.inl (Or.inl hx)
    · exact Or.inl (Or.inr (Or.inl hx))
    · exact Or.inl (Or.inr (Or.inr (Or.inl hx)))
    · exact Or.inl (Or.inr (Or.inr (Or.inr (Or.inl hx))))
    · exact Or.inl (Or.inr (Or.inr (Or.inr (Or.inr (Or.inl hx)))))
    · exact Or.inl (Or.inr (Or.inr (Or.inr (Or.inr (Or.inr (Or.inl hx))))))
    · exact Or.inr hn
    · exact Or.inl (Or.inr (Or.inr (Or.inr (Or.inr (Or.inr (Or.inr hx))))))
theorem upd_same (f : Nat → List (Id × Unit)) (g : Nat) (l : List (Id × Unit)) : upd f g l g = l := by simp [upd]
theorem upd_other (f : Nat → List (Id × Unit)) {g x : Nat} (l : List (Id × Unit)) (h : x ≠ g) : upd f g l x = f x := by simp [upd, h]
/-- Putting an id in: all, keys, clients, wide. -/
theorem Inv.put {w1 w2 w3 : World} {b : Nat} {s s2 s3 s4 : IxS} {i : Id} {e : CE} (h : Inv s) (hi : aget s.la i = none)
    (e2 : s2 = { s with la := s.la ++ [(i, e)] }) (h1 : Ix w1 b s2) (p3 : PutK s2 s3 i (kOf e) w1.heap.size) (h2 : Ix w2 b s3) (p4 : PutC s3 s4 i (cOf e) w2.heap.size) (h3 : Ix w3 b s4) :
    Inv (if isWideB e.1 then { s4 with lw := aput s4.lw i () } else s4) ∧ s4.la = s.la ++ [(i, e)] ∧ ∀ g ∈ s4.blocks b, g ∈ s.blocks b ∨ w1.heap.size ≤ g ∨ w2.heap.size ≤ g := by
  -- the keys' side behind 'in' of the key
  have hc2 : InvG s.la s2.lc s2.gr cOf := by rw [e2]; exact h.c
  have hk3 : InvG (s.la ++ [(i, e)]) s3.lk s3.gr kOf ∧ s3.lc = s.lc ∧ s3.lw = s.lw ∧ s3.la = s.la ++ [(i, e)] ∧ (∀ c g, aget s.lc c = some g → s3.gr g = s.gr g) ∧ ∀ g ∈ s3.blocks b, g ∈ s.blocks b ∨ w1.heap.size ≤ g := by
    rcases p3 with ⟨g, hg, rfl⟩ | ⟨hg, n, hn, rfl⟩
    · refine ⟨?_, by rw [e2], by rw [e2], by rw [e2], fun c g' hc => ?_, fun x hx => Or.inl (by rw [e2] at hx; exact hx)⟩
      · have hg' : aget s.lk (kOf e) = some g := by rw [e2] at hg; exact hg
        have := h.k.put_old (gr' := upd s.gr g (aput (s.gr g) i ())) hi hg' (fun k hk => h1.oneK (by rw [e2]; exact hk) hg) (fun x => by rw [upd_same, ahas_aput, Bool.or_eq_true, decide_eq_true_eq]) (fun k g' _ hne => upd_other _ _ hne)
        rw [e2]
        exact this
      · have hne := h1.part hg (c := c) (g' := g') (by rw [e2]; exact hc)
        simp only
        rw [upd_other _ _ (fun e0 => hne e0.symm), e2]
    · have hnb : n ∉ s2.blocks b := fun hx => by have := h1.lt n hx; omega
      refine ⟨?_, by rw [e2], by rw [e2], by rw [e2], fun c g' hc => ?_, fun x hx => ?_⟩
      · have hg' : aget s.lk (kOf e) = none := by rw [e2] at hg; exact hg
        have := h.k.put_new (g0 := n) (gr' := upd s.gr n [(i, ())]) hi hg' (upd_same _ _ _) (fun k g' hk => upd_other _ _ (fun e0 => hnb (by
          subst e0
          have := h1.gsK (k := k) (g := g') (by rw [e2]; exact hk)
          simp [IxS.blocks, this])))
        rw [e2]
        exact this
      · simp only
        rw [upd_other _ _ (fun e0 => hnb (by
          subst e0
          have := h1.gsC (k := c) (g := g') (by rw [e2]; exact hc)
          simp [IxS.blocks, this])), e2]
      · rw [e2] at hx
        simp only [IxS.blocks, IxS.gs, List.map_append, List.map_cons, List.map_nil, List.mem_cons, List.mem_append, List.not_mem_nil, or_false] at hx ⊢
        rcases hx with hx | hx | hx | hx | hx | (hx | rfl) | hx
        · exact Or.inl (Or.inl hx)
        · exact Or.inl (Or.inr (Or.inl hx))
        · exact Or.inl (Or.inr (Or.inr (Or.inl hx)))
        · exact Or.inl (Or.inr (Or.inr (Or.inr (Or.inl hx))))
        · exact Or.inl (Or.inr (Or.inr (Or.inr (Or.inr (Or.inl hx)))))
        · exact Or.inl (Or.inr (Or.inr (Or.inr (Or.inr (Or.inr (Or.inl hx))))))
        · exact Or.inr hn
        · exact Or.inl (Or.inr (Or.inr (Or.inr (Or.inr (Or.inr (Or.inr hx))))))
  obtain ⟨k1, k2, k3, k4, k5, k6⟩ := hk3
  have hc3 : InvG s.la s3.lc s3.gr cOf := by rw [k2]; exact h.c.frame (fun c g hc => k5 c g hc)
  have hk4 : InvG (s.la ++ [(i, e)]) s4.lk s4.gr kOf ∧ InvG (s.la ++ [(i, e)]) s4.lc s4.gr cOf ∧ s4.lw = s.lw ∧ s4.la = s.la ++ [(i, e)] ∧ ∀ g ∈ s4.blocks b, g ∈ s3.blocks b ∨ w2.heap.size ≤ g := by
    rcases p4 with ⟨g, hg, rfl⟩ | ⟨hg, n, hn, rfl⟩
    · refine ⟨?_, ?_, k3, k4, fun x hx => Or.inl hx⟩
      · exact k1.frame (fun k g' hk => upd_other _ _ (h2.part hk hg))
      · exact hc3.put_old hi hg (fun c hc => h2.oneC hc hg) (fun x => by show ahas (upd s3.gr g (aput (s3.gr g) i ()) g) x = true ↔ _; rw [upd_same, ahas_aput, Bool.or_eq_true, decide_eq_true_eq]) (fun c g' _ hne => upd_other _ _ hne)
    · have hnb : n ∉ s3.blocks b := fun hx => by have := h2.lt n hx; omega
      refine ⟨?_, ?_, k3, k4, fun x hx => ?_⟩
      · exact k1.frame (fun k g' hk => upd_other _ _ (fun e0 => hnb (by
          subst e0
          have := h2.gsK hk
          simp [IxS.blocks, this])))
      · exact hc3.put_new hi hg (upd_same _ _ _) (fun c g' hc => upd_other _ _ (fun e0 => hnb (by
          subst e0
          have := h2.gsC hc
          simp [IxS.blocks, this])))
      · simp only [IxS.blocks, IxS.gs, List.map_append, List.map_cons, List.map_nil, List.mem_cons, List.mem_append, List.not_mem_nil, or_false] at hx ⊢
        rcases hx with hx | hx | hx | hx | hx | hx | hx | rfl
        · exact Or.inl (Or.inl hx)
        · exact Or.inl (Or.inr (Or.inl hx))
        · exact Or.inl (Or.inr (Or.inr (Or.inl hx)))
        · exact Or.inl (Or.inr (Or.inr (Or.inr (Or.inl hx))))
        · exact Or.inl (Or.inr (Or.inr (Or.inr (Or.inr (Or.inl hx)))))
        · exact Or.inl (Or.inr (Or.inr (Or.inr (Or.inr (Or.inr (Or.inl hx))))))
        · exact Or.inl (Or.inr (Or.inr (Or.inr (Or.inr (Or.inr (Or.inr hx))))))
        · exact Or.inr hn
  obtain ⟨m1, m2, m3, m4, m5⟩ := hk4
  have hw : ∀ x, ahas (if isWideB e.1 then aput s.lw i () else s.lw) x = true ↔ ∃ e', aget (s.la ++ [(i, e)]) x = some e' ∧ isWideB e'.1 = true := fun x => by
    rw [aget_snoc s.la i x e hi]
    by_cases hxi : x = i
    · subst hxi
      rw [if_pos rfl]
      cases hwb : isWideB e.1
      · simp only [Bool.false_eq_true, if_false]
        rw [h.w x, hi]
        simp [hwb]
      · simp only [if_true, ahas_aput]
        simp [hwb]
    · rw [if_neg hxi, ← h.w x]
      cases isWideB e.1
      · simp
      · simp only [if_true, ahas_aput]
        simp [hxi]
  refine ⟨?_, m4, fun g hg => ?_⟩
  · cases hwb : isWideB e.1
    · rw [hwb] at hw
      simp only [Bool.false_eq_true, if_false] at hw ⊢
      exact ⟨by rw [m4]; exact m1, by rw [m4]; exact m2, by rw [m3, m4]; exact hw⟩
    · rw [hwb] at hw
      simp only [if_true] at hw ⊢
      exact ⟨by show InvG s4.la s4.lk s4.gr kOf; rw [m4]; exact m1, by show InvG s4.la s4.lc s4.gr cOf; rw [m4]; exact m2, by show ∀ i_1, ahas (aput s4.lw i ()) i_1 = true ↔ ∃ e, aget s4.la i_1 = some e ∧ isWideB e.1 = true; rw [m3, m4]; exact hw⟩
  · rcases m5 g hg with h0 | h0
    · rcases k6 g h0 with h0 | h0
      · exact Or.inl h0
      · exact Or.inr (Or.inl h0)
    · exact Or.inr (Or.inr h0)

set_option maxRecDepth 100000 in
set_option maxHeartbeats 1600000 in
theorem IxPut_any (w : World) (b : Nat) (s : IxS) (i : Id) (c : Cmd) (q : Int) (h : Ix w b s) (hv : Inv s) :
    Calls Try.prog 25 #[.pointer (some ⟨b, 0, none⟩), .agg #[.int .i64 i.r, .int .i64 i.n], .agg #[.int .i64 c.kind, .int .i64 c.client, .int .i64 c.seq, .string c.key, .string c.val, .int .i64 c.rev], .int .i64 q] w fun e w' => e = .returned (.tuple #[]) ∧ ∃ s', Ix w' b s' ∧ Inv s' ∧ s'.la = adel s.la i ++ [(i, (c, q))] ∧ s'.lk.length ≤ s.lk.length + 1 ∧ (∀ g ∈ s'.blocks b, g ∈ s.blocks b ∨ w.heap.size ≤ g) ∧ Keeps (· ∈ s.blocks b) w w' := by
  have lb := h.lt
  have HX := hid h
  clear h
  go_enter Try.func25, Try.ntmps25
  go_wp2_with fail
  have hE0 : Ext w ((w.alloc (.cells #[.int .i64 i.r, .int .i64 i.n] 28)).alloc (.cells #[.int .i64 c.kind, .int .i64 c.client, .int .i64 c.seq, .string c.key, .string c.val, .int .i64 c.rev] 49)) := ((Ext.refl w).alloc _).alloc _
  refine (IxDrop_any ((w.alloc (.cells #[.int .i64 i.r, .int .i64 i.n] 28)).alloc (.cells #[.int .i64 c.kind, .int .i64 c.client, .int .i64 c.seq, .string c.key, .string c.val, .int .i64 c.rev] 49)) b s i (HX.out.ext hE0) hv).mono ?_
  rintro e w1 ⟨rfl, s1, hI1, hv1, hla1, hbl1, hlk1, hK1⟩
  have HKK : Hid (Keeps (· ∈ s.blocks b) w w1) := hE0.keeps.trans hK1 (fun _ _ h => h)
  have hni : ∀ k, w.heap.size ≤ k → ¬ k ∈ s.blocks b := fun k hk hm => by have := lb k hm; omega
  have d0 : w1.cell? ⟨w.heap.size, 0, none⟩ = some (.int .i64 i.r) := hK1.cell (hni _ (Nat.le_refl _)) (by simp)
  have d1 : w1.cell? ⟨w.heap.size, 1, none⟩ = some (.int .i64 i.n) := hK1.cell (hni _ (Nat.le_refl _)) (by simp)
  have f0 : w1.cell? ⟨w.heap.size + 1, 0, none⟩ = some (.int .i64 c.kind) := hK1.cell (hni _ (by omega)) (by simp)
  have f1 : w1.cell? ⟨w.heap.size + 1, 1, none⟩ = some (.int .i64 c.client) := hK1.cell (hni _ (by omega)) (by simp)
  have f2 : w1.cell? ⟨w.heap.size + 1, 2, none⟩ = some (.int .i64 c.seq) := hK1.cell (hni _ (by omega)) (by simp)
  have f3 : w1.cell? ⟨w.heap.size + 1, 3, none⟩ = some (.string c.key) := hK1.cell (hni _ (by omega)) (by simp)
  have f4 : w1.cell? ⟨w.heap.size + 1, 4, none⟩ = some (.string c.val) := hK1.cell (hni _ (by omega)) (by simp)
  have f5 : w1.cell? ⟨w.heap.size + 1, 5, none⟩ = some (.int .i64 c.rev) := hK1.cell (hni _ (by omega)) (by simp)
  have hs1 : w.heap.size + 2 ≤ w1.heap.size := by have := hK1.size; simp at this; omega
  have hi1 : aget s1.la i = none := by rw [hla1, aget_adel, if_pos rfl]
  have hap : aput s1.la i (c, q) = s1.la ++ [(i, (c, q))] := by
    unfold aput
    rw [ahas_eq, hi1]
    rfl
  obtain ⟨es, ck, hu, hm⟩ := (hI1.all.same (w' := w1.drew) rfl).update keyId Try.underlying82 i (c, q)
  rw [hap] at hm
  simp only [vId, vE] at hu
  obtain ⟨x0, x1, x2, x3⟩ := hI1.cells
  have hI2 := (hI1.ext ((Ext.refl w1).drew)).setAll hm ((Keeps.refl (· = s1.ma) _).setBlock (fun _ => rfl) _)
  have hK2 : Keeps (· = s1.ma) w1 (setBlock w1.drew s1.ma (.map es ck)) := ((Keeps.refl (· = s1.ma) w1).drew).setBlock (fun _ => rfl) _
  have hma : s1.ma ∈ s.blocks b := by rw [← hbl1]; simp [IxS.blocks]
  have HI2 := hid hI2
  have HK2 := hid hK2
  have HI1 := hid hI1
  have HV1 := hid hv1
  have HL1 := hid hla1
  have HB1 := hid hbl1
  clear hI1 hI2 hK2 hm hE0 hK1 hv hv1 hap hla1 hbl1
  go_wp2_with fail
  go_region
  obtain ⟨w2, hw⟩ : ∃ w2 : World, w2 = setBlock w1.drew s1.ma (.map es ck) := ⟨_, rfl⟩
  rw [← hw] at HI2 HK2
  rw [← hw]
  clear hw hu x0 x1 x2 x3 es ck
  have hlt := lb _ hma
  replace d0 := HK2.out.cell (by omega) d0
  replace d1 := HK2.out.cell (by omega) d1
  replace f0 := HK2.out.cell (by omega) f0
  replace f1 := HK2.out.cell (by omega) f1
  replace f2 := HK2.out.cell (by omega) f2
  replace f3 := HK2.out.cell (by omega) f3
  replace f4 := HK2.out.cell (by omega) f4
  replace f5 := HK2.out.cell (by omega) f5
  have HKK2 : Hid (Keeps (· ∈ s.blocks b) w w2) := HKK.out.trans HK2.out (fun k _ e => by subst e; exact hma)
  have hs2 : w.heap.size + 2 ≤ w2.heap.size := by have := HK2.out.size; omega
  obtain ⟨s2, hs2e⟩ : ∃ s2 : IxS, s2 = { s1 with la := s1.la ++ [(i, (c, q))] } := ⟨_, rfl⟩
  rw [← hs2e] at HI2
  have hb2 : s2.blocks b = s.blocks b := by rw [hs2e]; exact HB1.out
  have HS2 := hid hs2e
  clear hs2e HK2 HKK hma hlt HI1 hs1
  obtain ⟨x0, x1, x2, x3⟩ := HI2.out.cells
  go_wp2_with fail
  refine region_still_tail 7 (by kernel_rfl) (by kernel_rfl) ?_
  simp only [List.take_succ_cons, List.take_zero, List.drop_succ_cons, List.drop_zero]
  repeat still_step
  refine wpStill_nil ?_
  clear x0 x1 x2 x3
  go_wp2_with fail
  refine (inK_ix w2.drew b s2 i (c, q) (HI2.out.ext ((Ext.refl w2).drew))).mono ?_
  rintro e w3 ⟨rfl, s3, hI3, hp3, hK3⟩
  have HK3 : Hid (Keeps (· ∈ s.blocks b) w2 w3) := by
    have := ((Keeps.refl (· ∈ s2.blocks b) w2).drew).trans hK3 (fun _ _ h => h)
    rw [hb2] at this
    exact this
  replace d0 := HK3.out.cell (hni _ (by omega)) d0
  replace d1 := HK3.out.cell (hni _ (by omega)) d1
  replace f0 := HK3.out.cell (hni _ (by omega)) f0
  replace f1 := HK3.out.cell (hni _ (by omega)) f1
  replace f2 := HK3.out.cell (hni _ (by omega)) f2
  replace f3 := HK3.out.cell (hni _ (by omega)) f3
  replace f4 := HK3.out.cell (hni _ (by omega)) f4
  replace f5 := HK3.out.cell (hni _ (by omega)) f5
  have HKK3 : Hid (Keeps (· ∈ s.blocks b) w w3) := HKK2.out.trans HK3.out (fun _ _ h => h)
  have hs3 : w.heap.size + 2 ≤ w3.heap.size := by have := HK3.out.size; omega
  have HI3 := hid hI3
  have HP3 := hid hp3
  clear hI3 hp3 hK3 HK3 HKK2
  obtain ⟨x0, x1, x2, x3⟩ := HI3.out.cells
  go_wp2_with fail
  refine region_still_tail 7 (by kernel_rfl) (by kernel_rfl) ?_
  simp only [List.take_succ_cons, List.take_zero, List.drop_succ_cons, List.drop_zero]
  repeat still_step
  refine wpStill_nil ?_
  clear x0 x1 x2 x3
  go_wp2_with fail
  refine (inC_ix w3.drew b s3 i (c, q) (HI3.out.ext ((Ext.refl w3).drew))).mono ?_
  rintro e w4 ⟨rfl, s4, hI4, hp4, hK4⟩
  have hall := HV1.out.put hi1 HS2.out (HI2.out.ext ((Ext.refl w2).drew)) HP3.out (HI3.out.ext ((Ext.refl w3).drew)) hp4 hI4
  have hb3 := HP3.out.blocks b
  have hin3 : ∀ g, g < w2.heap.size → g ∈ s3.blocks b → g ∈ s.blocks b := fun g hg hm => by
    rcases hb3 g hm with h0 | h0
    · rw [← hb2]; exact h0
    · have : w2.heap.size ≤ g := h0
      omega
  have hK34 : Keeps (· ∈ s3.blocks b) w3 w4 := ((Keeps.refl (· ∈ s3.blocks b) w3).drew).trans hK4 (fun _ _ h => h)
  have HKK4 : Hid (Keeps (· ∈ s.blocks b) w w4) := HKK3.out.trans hK34 (fun g hg hm => hin3 g (by omega) hm)
  replace d0 := hK34.cell (fun hm => hni _ (by omega) (hin3 _ (by omega) hm)) d0
  replace d1 := hK34.cell (fun hm => hni _ (by omega) (hin3 _ (by omega) hm)) d1
  replace f0 := hK34.cell (fun hm => hni _ (by omega) (hin3 _ (by omega) hm)) f0
  replace f1 := hK34.cell (fun hm => hni _ (by omega) (hin3 _ (by omega) hm)) f1
  replace f2 := hK34.cell (fun hm => hni _ (by omega) (hin3 _ (by omega) hm)) f2
  replace f3 := hK34.cell (fun hm => hni _ (by omega) (hin3 _ (by omega) hm)) f3
  replace f4 := hK34.cell (fun hm => hni _ (by omega) (hin3 _ (by omega) hm)) f4
  replace f5 := hK34.cell (fun hm => hni _ (by omega) (hin3 _ (by omega) hm)) f5
  have hs4 : w.heap.size + 2 ≤ w4.heap.size := by have := hK34.size; omega
  have hbl4 : ∀ g ∈ s4.blocks b, g ∈ s.blocks b ∨ w.heap.size ≤ g := fun g hg => by
    rcases hall.2.2 g hg with h0 | h0 | h0
    · rw [← HB1.out]; exact Or.inl h0
    · have : w2.heap.size ≤ g := h0
      exact Or.inr (by omega)
    · have : w3.heap.size ≤ g := h0
      exact Or.inr (by omega)
  have hlk4 : s4.lk.length ≤ s.lk.length + 1 := by
    have e2 : s2.lk = s.lk := by rw [HS2.out]; exact hlk1
    have e4 : s4.lk = s3.lk := by rcases hp4 with ⟨_, _, rfl⟩ | ⟨_, _, _, rfl⟩ <;> rfl
    rw [e4]
    rcases HP3.out with ⟨_, _, h0⟩ | ⟨_, _, _, h0⟩
    · rw [h0]; show s2.lk.length ≤ _; rw [e2]; omega
    · rw [h0]; show (s2.lk ++ [_]).length ≤ _; rw [List.length_append, e2]; simp
  have HLK := hid hlk4
  have HA := hid hall
  have HI4 := hid hI4
  have HBL := hid hbl4
  clear hlk4 hlk1 hall hI4 hp4 hK4 hK34 hb3 hin3 HP3 HI3 HI2 HS2 HV1 hb2 hbl4 HKK3 hs2 hs3
  cases hwd : isWideB c
  case false =>
    have HW := hid (fun W => isWide_any c W)
    rw [hwd] at HW
    have hfin : Inv s4 := by have := HA.out.1; rw [show isWideB ((c, q) : CE).1 = false from hwd] at this; exact this
    have HF := hid hfin
    clear hwd hfin
    go_wp2_with fail
    refine (HW.out _).mono ?_
    rintro e w5 ⟨rfl, hE5⟩
    go_wp2
    go_end0
    exact ⟨rfl, s4, HI4.out.ext hE5, HF.out, by rw [HA.out.2.1, HL1.out], HLK.out, HBL.out, HKK4.out.trans hE5.keeps (T := fun _ => False) (fun _ _ h => h.elim)⟩
  case true =>
    have HW := hid (fun W => isWide_any c W)
    rw [hwd] at HW
    have hfin : Inv { s4 with lw := aput s4.lw i () } := by have := HA.out.1; rw [show isWideB ((c, q) : CE).1 = true from hwd] at this; exact this
    have HF := hid hfin
    clear hwd hfin
    go_wp2_with fail
    refine (HW.out _).mono ?_
    rintro e w5 ⟨rfl, hE5⟩
    have hI5 := HI4.out.ext hE5
    replace d0 := (hE5.keeps (S := fun _ => False)).cell (fun h => h) d0
    replace d1 := (hE5.keeps (S := fun _ => False)).cell (fun h => h) d1
    clear f0 f1 f2 f3 f4 f5
    obtain ⟨es, ck, hu, hm⟩ := (hI5.wide.same (w' := w5.drew) rfl).update keyId Try.underlying86 i ()
    simp only [vId, vT] at hu
    obtain ⟨x0, x1, x2, x3⟩ := hI5.cells
    have hI6 := (hI5.ext ((Ext.refl w5).drew)).setWide hm ((Keeps.refl (· = s4.mw) _).setBlock (fun _ => rfl) _)
    have hK6 : Keeps (· ∈ s.blocks b) w (setBlock w5.drew s4.mw (.map es ck)) := (((HKK4.out.trans hE5.keeps (T := fun _ => False) (fun _ _ h => h.elim)).drew).setBlock (fun hlt => by
      rcases HBL.out s4.mw (by simp [IxS.blocks]) with h0 | h0
      · exact h0
      · omega) _)
    have HI6 := hid hI6
    have HK6 := hid hK6
    clear hI5 hm hI6 hK6
    go_wp2_with fail
    go_region
    go_wp2
    go_end0
    exact ⟨rfl, _, HI6.out, HF.out, by show s4.la = _; rw [HA.out.2.1, HL1.out], HLK.out, HBL.out, HK6.out⟩

end Go.Proofs.Ytlepfohhfngndaa
