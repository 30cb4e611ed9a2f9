/- The disk in plain words: what each deed makes of it. -/
import Derived.Test.YtopabknlgmihpaaDiskA
import Derived.Test.YtopabknlgmihpaaName
namespace Go.Proofs.Ytopabknlgmihpaa
open Go Go.RowKit Go.MapKept Go.ChangeMaps Go.Maps

abbrev FL : Type := List (SKey × List UInt8 × Nat)
def setA (d : AD) (n : SKey) (x : List UInt8 × Nat) : AD := { d with l := aput d.l n x }
def appendA (n : SKey) (b : List UInt8) (d : AD) : AD × Int :=
  if nameB n.1 = false then (d, 1)
  else if d.room - (totL d.l : Int) < (b.length : Int) then (d, 7)
  else match aget d.l n with
    | none => if d.l.length = 16 then (d, 12) else (setA d n (b, 0), 0)
    | some x => (setA d n (x.1 ++ b, x.2), 0)
def syncA (n : SKey) (d : AD) : AD × Int :=
  match aget d.l n with
  | none => (d, 8)
  | some x => (setA d n (x.1, x.1.length), 0)
def cutA (n : SKey) (k : Int) (d : AD) : AD × Int :=
  match aget d.l n with
  | none => (d, 8)
  | some x => if k < 0 ∨ (x.1.length : Int) < k then (d, 6) else (setA d n (x.1.take k.toNat, k.toNat), 0)
def moveA (f t : SKey) (d : AD) : AD × Int :=
  match aget d.l f with
  | none => (d, 8)
  | some x => if nameB t.1 = false then (d, 1) else ({ d with l := aput (adel d.l f) t (x.1, x.1.length) }, 0)
def removeA (n : SKey) (d : AD) : AD × Int :=
  match aget d.l n with
  | none => (d, 8)
  | some _ => ({ d with l := adel d.l n }, 0)
def deedA (f : AD → AD × Int) (d : AD) : AD × Int :=
  if d.down = true ∨ d.fuse = 0 then ({ d with down := true }, 15) else f { d with fuse := burn d.fuse }

section
variable {l : FL} {n : SKey} {x y : List UInt8 × Nat}
theorem keys_put {κ β : Type} [DecidableEq κ] {l : List (κ × β)} (h : l.Pairwise (fun x y => x.1 ≠ y.1)) (n : κ) (x : β) : (aput l n x).Pairwise (fun x y => x.1 ≠ y.1) := by
  unfold aput
  split
  · rw [List.pairwise_map]
    refine h.imp (fun {a b} hab => ?_)
    have h1 : (if a.1 = n then (n, x) else a).1 = a.1 := by split <;> simp_all
    have h2 : (if b.1 = n then (n, x) else b).1 = b.1 := by split <;> simp_all
    rw [h1, h2]
    exact hab
  · rename_i hn
    refine List.pairwise_append.2 ⟨h, List.pairwise_singleton _ _, fun a ha b hb => ?_⟩
    rw [List.mem_singleton] at hb
    subst hb
    intro e
    exact hn (ahas_iff.2 ⟨a, ha, e⟩)
theorem keys_del {κ β : Type} [DecidableEq κ] {l : List (κ × β)} (h : l.Pairwise (fun x y => x.1 ≠ y.1)) (n : κ) : (adel l n).Pairwise (fun x y => x.1 ≠ y.1) := h.sublist List.filter_sublist
theorem mem_put {κ β : Type} [DecidableEq κ] {l : List (κ × β)} {n : κ} {x : β} {z : κ × β} (h : z ∈ aput l n x) : z = (n, x) ∨ z ∈ l := by
  unfold aput at h
  split at h
  · obtain ⟨a, ha, e⟩ := List.mem_map.1 h
    split at e
    · exact Or.inl e.symm
    · exact Or.inr (e ▸ ha)
  · rcases List.mem_append.1 h with h | h
    · exact Or.inr h
    · exact Or.inl (List.mem_singleton.1 h)
theorem mem_del {κ β : Type} [DecidableEq κ] {l : List (κ × β)} {n : κ} {z : κ × β} (h : z ∈ adel l n) : z ∈ l := (List.mem_filter.1 h).1
theorem len_put_there {κ β : Type} [DecidableEq κ] {l : List (κ × β)} {n : κ} {x y : β} (h : aget l n = some y) : (aput l n x).length = l.length := by
  unfold aput
  rw [if_pos (by rw [ahas_eq, h]; rfl), List.length_map]
theorem len_put_new {κ β : Type} [DecidableEq κ] {l : List (κ × β)} {n : κ} {x : β} (h : aget l n = none) : (aput l n x).length = l.length + 1 := by
  unfold aput
  rw [if_neg (by rw [ahas_eq, h]; simp)]
  simp
theorem len_del_le {κ β : Type} [DecidableEq κ] (l : List (κ × β)) (n : κ) : (adel l n).length ≤ l.length := List.length_filter_le _ _
theorem len_put_le {κ β : Type} [DecidableEq κ] (l : List (κ × β)) (n : κ) (x : β) : (aput l n x).length ≤ l.length + 1 := by
  cases h : aget l n with
  | none => rw [len_put_new h]; exact Nat.le_refl _
  | some y => rw [len_put_there h]; omega
theorem tot_put_new (h : aget l n = none) : totL (aput l n x) = totL l + x.1.length := by
  unfold aput totL
  rw [if_neg (by rw [ahas_eq, h]; simp)]
  simp
theorem tot_put_there (hk : l.Pairwise (fun x y => x.1 ≠ y.1)) (h : aget l n = some y) : totL (aput l n x) + y.1.length = totL l + x.1.length := by
  induction l with
  | nil => cases h
  | cons a r ih =>
    rw [List.pairwise_cons] at hk
    unfold aput totL
    rw [if_pos (by rw [ahas_eq, h]; rfl)]
    by_cases ha : a.1 = n
    · have hy : a.2 = y := by
        unfold aget at h
        rw [List.find?_cons_of_pos (by simpa using ha)] at h
        simpa using h
      have hr : r.map (fun p => if p.1 = n then (n, x) else p) = r := by
        conv => rhs; rw [← List.map_id r]
        refine List.map_congr_left (fun p hp => ?_)
        rw [if_neg (fun e => hk.1 p hp (ha.trans e.symm))]
        rfl
      simp only [List.map_cons, if_pos ha, hr, List.sum_cons, hy]
      omega
    · have h' : aget r n = some y := by
        unfold aget at h ⊢
        rw [List.find?_cons_of_neg (by simpa using ha)] at h
        exact h
      have := ih hk.2 h'
      unfold aput totL at this
      rw [if_pos (by rw [ahas_eq, h']; rfl)] at this
      simp only [List.map_cons, if_neg ha, List.sum_cons]
      omega
theorem tot_del (hk : l.Pairwise (fun x y => x.1 ≠ y.1)) (h : aget l n = some y) : totL (adel l n) + y.1.length = totL l := by
  induction l with
  | nil => cases h
  | cons a r ih =>
    rw [List.pairwise_cons] at hk
    unfold adel totL
    by_cases ha : a.1 = n
    · have hy : a.2 = y := by
        unfold aget at h
        rw [List.find?_cons_of_pos (by simpa using ha)] at h
        simpa using h
      have hr : r.filter (fun p => decide (p.1 ≠ n)) = r := List.filter_eq_self.2 (fun p hp => by simpa using fun e => hk.1 p hp (ha.trans e.symm))
      rw [List.filter_cons_of_neg (by simpa using ha), hr]
      simp only [List.map_cons, List.sum_cons, hy]
      omega
    · have h' : aget r n = some y := by
        unfold aget at h ⊢
        rw [List.find?_cons_of_neg (by simpa using ha)] at h
        exact h
      have := ih hk.2 h'
      unfold adel totL at this
      rw [List.filter_cons_of_pos (by simpa using ha)]
      simp only [List.map_cons, List.sum_cons]
      omega
theorem tot_del_le (l : FL) (n : SKey) : totL (adel l n) ≤ totL l := by
  unfold adel totL
  induction l with
  | nil => exact Nat.le_refl _
  | cons a r ih =>
    by_cases ha : a.1 = n
    · rw [List.filter_cons_of_neg (by simpa using ha)]; simp only [List.map_cons, List.sum_cons]; omega
    · rw [List.filter_cons_of_pos (by simpa using ha)]; simp only [List.map_cons, List.sum_cons]; omega
end

theorem burn_range {n : Int} (h : -1 ≤ n ∧ n ≤ 9223372036854775807) : -1 ≤ burn n ∧ burn n ≤ 9223372036854775807 := by
  unfold burn
  split <;> omega
section
variable {d : AD}
theorem AD.Good.len_get (h : d.Good) {n : SKey} {x : List UInt8 × Nat} (hx : aget d.l n = some x) : x.2 ≤ x.1.length ∧ (x.1.length : Int) ≤ d.room := by
  refine ⟨h.sure _ (mem_of_get hx), ?_⟩
  have := tot_del h.keys hx
  have := h.tot
  omega
theorem AD.Good.burnt (h : d.Good) : AD.Good { d with fuse := burn d.fuse } := ⟨h.keys, h.sure, h.len, h.tot, h.room, burn_range h.fuse⟩
theorem AD.Good.dead (h : d.Good) : AD.Good { d with down := true } := ⟨h.keys, h.sure, h.len, h.tot, h.room, h.fuse⟩
theorem AD.Good.append (h : d.Good) (n : SKey) (b : List UInt8) : (appendA n b d).1.Good := by
  unfold appendA
  split
  · exact h
  · split
    · exact h
    · split
      · rename_i hn
        split
        · exact h
        · refine ⟨keys_put h.keys _ _, fun z hz => ?_, ?_, ?_, h.room, h.fuse⟩
          · rcases mem_put hz with rfl | hz
            · simp
            · exact h.sure z hz
          · show (aput d.l n _).length ≤ 16
            rw [len_put_new hn]
            have := h.len
            omega
          · show ((totL (aput d.l n _) : Nat) : Int) ≤ d.room
            rw [tot_put_new hn]
            simp only
            omega
      · rename_i x hn
        refine ⟨keys_put h.keys _ _, fun z hz => ?_, ?_, ?_, h.room, h.fuse⟩
        · rcases mem_put hz with rfl | hz
          · have := (h.len_get hn).1
            simp
            omega
          · exact h.sure z hz
        · show (aput d.l n _).length ≤ 16
          rw [len_put_there hn]
          exact h.len
        · show ((totL (aput d.l n _) : Nat) : Int) ≤ d.room
          have := tot_put_there (x := (x.1 ++ b, x.2)) h.keys hn
          simp at this
          omega
theorem AD.Good.set (h : d.Good) {n : SKey} {x y : List UInt8 × Nat} (hx : aget d.l n = some x) (h1 : y.2 ≤ y.1.length) (h2 : y.1.length ≤ x.1.length) : (setA d n y).Good := by
  refine ⟨keys_put h.keys _ _, fun z hz => ?_, ?_, ?_, h.room, h.fuse⟩
  · rcases mem_put hz with rfl | hz
    · exact h1
    · exact h.sure z hz
  · show (aput d.l n _).length ≤ 16
    rw [len_put_there hx]
    exact h.len
  · show ((totL (aput d.l n _) : Nat) : Int) ≤ d.room
    have := tot_put_there (x := y) h.keys hx
    have := h.tot
    omega
theorem AD.Good.sync (h : d.Good) (n : SKey) : (syncA n d).1.Good := by
  unfold syncA
  split
  · exact h
  · rename_i x hn
    exact h.set hn (Nat.le_refl _) (Nat.le_refl _)
theorem AD.Good.cut (h : d.Good) (n : SKey) (k : Int) : (cutA n k d).1.Good := by
  unfold cutA
  split
  · exact h
  · rename_i x hn
    split
    · exact h
    · rename_i hk
      exact h.set hn (by simp; omega) (by simp; omega)
theorem AD.Good.del (h : d.Good) (n : SKey) : AD.Good { d with l := adel d.l n } :=
  ⟨keys_del h.keys _, fun z hz => h.sure z (mem_del hz), Nat.le_trans (len_del_le _ _) h.len, by have := tot_del_le d.l n; have := h.tot; show ((totL (adel d.l n) : Nat) : Int) ≤ d.room; omega, h.room, h.fuse⟩
theorem AD.Good.remove (h : d.Good) (n : SKey) : (removeA n d).1.Good := by
  unfold removeA
  split
  · exact h
  · exact h.del n
theorem AD.Good.move (h : d.Good) (f t : SKey) : (moveA f t d).1.Good := by
  unfold moveA
  split
  · exact h
  · rename_i x hn
    split
    · exact h
    · have hd := h.del f
      have ht := tot_del h.keys hn
      have hlen : (adel d.l f).length < d.l.length := by
        unfold adel
        refine Nat.lt_of_le_of_ne (List.length_filter_le _ _) (fun e => ?_)
        have := List.length_filter_eq_length_iff.1 e _ (mem_of_get hn)
        simp at this
      refine ⟨keys_put hd.keys _ _, fun z hz => ?_, ?_, ?_, h.room, h.fuse⟩
      · rcases mem_put hz with rfl | hz
        · exact Nat.le_refl _
        · exact hd.sure z hz
      · show (aput (adel d.l f) t _).length ≤ 16
        have := len_put_le (adel d.l f) t (x.1, x.1.length)
        have := h.len
        omega
      · show ((totL (aput (adel d.l f) t _) : Nat) : Int) ≤ d.room
        have htt := h.tot
        cases hg : aget (adel d.l f) t with
        | none => rw [tot_put_new hg]; simp only; omega
        | some y =>
          have := tot_put_there (x := (x.1, x.1.length)) hd.keys hg
          simp only at this
          omega
theorem AD.Good.deed (h : d.Good) {f : AD → AD × Int} (hf : ∀ e : AD, e.Good → (f e).1.Good) : (deedA f d).1.Good := by
  unfold deedA
  split
  · exact h.dead
  · exact hf _ h.burnt
end
end Go.Proofs.Ytopabknlgmihpaa
