/- The disk's two accounts in plain words: the document's deeds keep them alike. -/
import Derived.Test.YtopabknlgmihpaaRef12E
import Derived.Test.YtopabknlgmihpaaDiskRoom
namespace Go.Proofs.Ytopabknlgmihpaa
open Go Go.RowKit Go.MapKept Go.ChangeMaps Go.Maps Go.Sort

abbrev RL : Type := List (SKey × List UInt8 × List UInt8)
structure RD where
  l : RL
  room : Int
  fuse : Int
  down : Bool
def RF.out (f : RF) : SKey × List UInt8 × List UInt8 := (f.name, f.S, f.T)
def RkS.abs (s : RkS) : RD := ⟨s.l.map RF.out, s.room, s.fuse, s.down⟩
def tellR (x : SKey × List UInt8 × List UInt8) : SKey × List UInt8 × Nat := (x.1, x.2.1 ++ x.2.2, x.2.1.length)
def ltN (t x : SKey) : Bool := decide (keyL t < keyL x)
def ltA (t x : SKey × List UInt8 × List UInt8) : Bool := ltN t.1 x.1
theorem ltR_eq (t x : RF) : ltR t x = ltA t.out x.out := by
  unfold ltR ltA ltN keyL RF.out
  rw [ByteArray.toList_eq, ByteArray.toList_eq, bytesLess_eq, Bool.eq_iff_iff]
  simp only [Bool.and_eq_true, Bool.not_eq_true', decide_eq_false_iff_not, beq_eq_false_iff_ne, ne_eq, decide_eq_true_eq]
  constructor
  · rintro ⟨h1, h2⟩
    rcases List.le_iff_lt_or_eq.1 (List.not_lt.1 h1) with h | h
    · exact h
    · exact absurd h.symm h2
  · intro h
    exact ⟨fun h1 => List.lt_irrefl _ (List.lt_trans h h1), fun e => by rw [e] at h; exact List.lt_irrefl _ h⟩
theorem ltN_ne {x y : SKey} (h : ltN x y = true) : x ≠ y := fun e => by
  subst e
  unfold ltN at h
  simp [List.lt_irrefl] at h
theorem ltN_trans {x y z : SKey} (h : ltN x y = true) (k : ltN y z = true) : ltN x z = true := by
  unfold ltN at *
  simp only [decide_eq_true_eq] at *
  exact List.lt_trans h k
theorem ltN_not {x y : SKey} (h : ltN x y = false) (hne : x ≠ y) : ltN y x = true := by
  unfold ltN at *
  simp only [decide_eq_false_iff_not, decide_eq_true_eq] at *
  rcases List.le_iff_lt_or_eq.1 (List.not_lt.1 h) with h | h
  · exact h
  · exact absurd (keyL_inj h).symm hne
section
variable {α β : Type} {lt : α → α → Bool} {lt' : β → β → Bool} {f : α → β}
theorem insG_map (h : ∀ t x, lt t x = lt' (f t) (f x)) (t : α) : ∀ (l : List α) (d : Bool), insG lt' (f t) (l.map f) d = ((insG lt t l d).1.map f, (insG lt t l d).2)
  | [], d => rfl
  | x :: r, d => by
    simp only [List.map_cons, insG, ← h]
    split <;> simp [insG_map h t r]
theorem addG_map (h : ∀ t x, lt t x = lt' (f t) (f x)) (t : α) (l : List α) : addG lt' (l.map f) (f t) = (addG lt l t).map f := by
  unfold addG
  simp only [insG_map h]
  split <;> simp
theorem insG_perm (t : α) : ∀ (l : List α) (d : Bool), ((insG lt t l d).1).Perm (if (insG lt t l d).2 && !d then t :: l else l)
  | [], d => by simp [insG]
  | x :: r, d => by
    simp only [insG]
    have hT : ∀ r, (insG lt t r true).2 = true := fun r => by
      induction r with
      | nil => rfl
      | cons y r ih => simp [insG, ih]
    split
    · rename_i h
      have hd : d = false := by cases d <;> simp_all
      subst hd
      have := insG_perm t r true
      simp only [Bool.not_true, Bool.and_false, Bool.false_eq_true, if_false] at this
      simp only [hT, Bool.not_false, Bool.and_true, if_true]
      exact (this.cons x).cons t
    · have := insG_perm t r d
      simp only
      split
      · rename_i h2
        rw [if_pos h2] at this
        exact (this.cons x).trans (List.Perm.swap t x r)
      · rename_i h2
        rw [if_neg h2] at this
        exact this.cons x
theorem addG_perm (t : α) (l : List α) : (addG lt l t).Perm (t :: l) := by
  have h := insG_perm (lt := lt) t l false
  unfold addG
  simp only
  cases h2 : (insG lt t l false).2
  · rw [h2] at h
    simp only [Bool.false_and, Bool.false_eq_true, if_false] at h ⊢
    exact (List.perm_append_singleton t _).trans (h.cons t)
  · rw [h2] at h
    simpa using h
end
theorem insA_true (t : SKey × List UInt8 × List UInt8) : ∀ l : RL, insG ltA t l true = (l, true)
  | [] => rfl
  | x :: r => by simp [insG, insA_true t r]
theorem addA_cons (t x : SKey × List UInt8 × List UInt8) (r : RL) : addG ltA (x :: r) t = if ltA t x then t :: x :: r else x :: addG ltA r t := by
  unfold addG
  simp only [insG, insA_true]
  by_cases h : ltA t x = true
  · simp [h]
  · simp only [h, Bool.not_false, Bool.and_false, Bool.false_eq_true, if_false]
    split <;> simp
theorem addA_sorted (t : SKey × List UInt8 × List UInt8) : ∀ l : RL, l.Pairwise (fun x y => ltN x.1 y.1 = true) → (∀ x ∈ l, x.1 ≠ t.1) → (addG ltA l t).Pairwise (fun x y => ltN x.1 y.1 = true)
  | [], _, _ => by simp [addG, insG]
  | x :: r, h, hn => by
    rw [addA_cons]
    obtain ⟨h1, h2⟩ := List.pairwise_cons.1 h
    split
    · rename_i hlt
      refine List.pairwise_cons.2 ⟨fun y hy => ?_, h⟩
      rcases List.mem_cons.1 hy with rfl | hy
      · exact hlt
      · exact ltN_trans hlt (h1 y hy)
    · rename_i hlt
      refine List.pairwise_cons.2 ⟨fun y hy => ?_, addA_sorted t r h2 (fun z hz => hn z (List.mem_cons_of_mem _ hz))⟩
      rcases List.mem_cons.1 ((addG_perm t r).mem_iff.1 hy) with rfl | hy
      · exact ltN_not (by simpa [ltA] using hlt) (hn x List.mem_cons_self).symm
      · exact h1 y hy
section
variable {κ β : Type} [DecidableEq κ]
theorem aget_no {l : List (κ × β)} {n : κ} (h : aget l n = none) : ∀ p ∈ l, p.1 ≠ n := fun p hp e => by
  have : ahas l n = true := ahas_iff.2 ⟨p, hp, e⟩
  rw [ahas_eq, h] at this
  cases this
theorem perm_get {l m : List (κ × β)} (h : l.Perm m) (hk : l.Pairwise (fun x y => x.1 ≠ y.1)) (n : κ) : aget l n = aget m n := by
  cases e : aget l n with
  | none => exact (aget_none (fun p hp => aget_no e p (h.mem_iff.2 hp))).symm
  | some v => exact (aget_some (h.pairwise hk (fun hab => hab.symm)) (p := (n, v)) (h.mem_iff.1 (mem_of_get e))).symm
theorem perm_has {l m : List (κ × β)} (h : l.Perm m) (n : κ) : ahas l n = ahas m n := by
  rw [Bool.eq_iff_iff, ahas_iff, ahas_iff]
  exact ⟨fun ⟨p, hp, e⟩ => ⟨p, h.mem_iff.1 hp, e⟩, fun ⟨p, hp, e⟩ => ⟨p, h.mem_iff.2 hp, e⟩⟩
theorem perm_put {l m : List (κ × β)} (h : l.Perm m) (n : κ) (v : β) : (aput l n v).Perm (aput m n v) := by
  unfold aput
  rw [perm_has h n]
  split
  · exact h.map _
  · exact h.append_right _
theorem perm_del {l m : List (κ × β)} (h : l.Perm m) (n : κ) : (adel l n).Perm (adel m n) := h.filter _
theorem del_no {l : List (κ × β)} {n : κ} (h : ∀ p ∈ l, p.1 ≠ n) : adel l n = l := List.filter_eq_self.2 (fun p hp => by simpa using h p hp)
theorem put_perm : ∀ {l : List (κ × β)} (_ : l.Pairwise (fun x y => x.1 ≠ y.1)) (n : κ) (v : β), (aput l n v).Perm ((n, v) :: adel l n)
  | l, hk, n, v => by
    unfold aput
    split
    · rename_i h
      obtain ⟨p, hp, e⟩ := ahas_iff.1 h
      clear h
      induction l with
      | nil => cases hp
      | cons a r ih =>
        obtain ⟨h1, h2⟩ := List.pairwise_cons.1 hk
        by_cases ha : a.1 = n
        · have hr : ∀ q ∈ r, q.1 ≠ n := fun q hq e1 => h1 q hq (ha.trans e1.symm)
          have hm : r.map (fun p => if p.1 = n then (n, v) else p) = r := by
            rw [List.map_congr_left (g := id)]
            · simp
            · intro q hq; rw [if_neg (hr q hq)]; rfl
          unfold adel
          rw [List.map_cons, if_pos ha, hm, List.filter_cons_of_neg (by simp [ha])]
          exact (by rw [show r.filter (fun p => decide (p.1 ≠ n)) = r from del_no hr])
        · rcases List.mem_cons.1 hp with rfl | hp
          · exact absurd e ha
          · have := ih h2 hp
            unfold adel at this ⊢
            rw [List.map_cons, if_neg ha, List.filter_cons_of_pos (by simpa using ha)]
            exact (this.cons a).trans (List.Perm.swap _ _ _)
    · rename_i h
      rw [del_no (fun p hp e => h (ahas_iff.2 ⟨p, hp, e⟩))]
      exact List.perm_append_singleton _ _
end
theorem get_tell (l : RL) (n : SKey) : aget (l.map tellR) n = (aget l n).map (fun x => (x.1 ++ x.2, x.1.length)) := by
  unfold aget
  rw [List.find?_map]
  have : ((fun p : SKey × List UInt8 × Nat => decide (p.1 = n)) ∘ tellR) = (fun p => decide (p.1 = n)) := rfl
  rw [this]
  cases l.find? (fun p => decide (p.1 = n)) <;> rfl
theorem has_tell (l : RL) (n : SKey) : ahas (l.map tellR) n = ahas l n := by
  rw [ahas_eq, get_tell, ahas_eq]
  cases aget l n <;> rfl
theorem put_tell (l : RL) (n : SKey) (x : List UInt8 × List UInt8) : (aput l n x).map tellR = aput (l.map tellR) n (x.1 ++ x.2, x.1.length) := by
  unfold aput
  rw [has_tell]
  split
  · rw [List.map_map, List.map_map]
    refine List.map_congr_left (fun y _ => ?_)
    by_cases h : y.1 = n <;> simp [tellR, h]
  · simp [tellR]
theorem del_tell (l : RL) (n : SKey) : (adel l n).map tellR = adel (l.map tellR) n := by
  unfold adel
  rw [List.filter_map]
  rfl

/-- What the document's disk tells is what the program's disk tells. -/
structure Sim (d : AD) (r : RD) : Prop where
  room : r.room = d.room
  fuse : r.fuse = d.fuse
  down : r.down = d.down
  perm : (r.l.map tellR).Perm d.l
  sorted : r.l.Pairwise (fun x y => ltN x.1 y.1 = true)
def totD (l : RL) : Nat := (l.map (fun x => x.2.1.length + x.2.2.length)).sum
def appendD (n : SKey) (b : List UInt8) (r : RD) : RD × Int :=
  if nameB n.1 = false then (r, 1)
  else if r.room < (totD r.l : Int) + (b.length : Int) then (r, 7)
  else match aget r.l n with
    | none => if 16 ≤ r.l.length then (r, 12) else ({ r with l := addG ltA r.l (n, [], b) }, 0)
    | some x => ({ r with l := aput r.l n (x.1, x.2 ++ b) }, 0)
def syncD (n : SKey) (r : RD) : RD × Int :=
  match aget r.l n with
  | none => (r, 8)
  | some x => ({ r with l := aput r.l n (x.1 ++ x.2, []) }, 0)
def cutD (n : SKey) (k : Int) (r : RD) : RD × Int :=
  match aget r.l n with
  | none => (r, 8)
  | some x => if k < 0 ∨ ((x.1 ++ x.2).length : Int) < k then (r, 6) else ({ r with l := aput r.l n ((x.1 ++ x.2).take k.toNat, []) }, 0)
def moveD (f t : SKey) (r : RD) : RD × Int :=
  match aget r.l f with
  | none => (r, 8)
  | some x => if nameB t.1 = false then (r, 1) else ({ r with l := addG ltA (adel (adel r.l f) t) (t, x.1 ++ x.2, []) }, 0)
def removeD (n : SKey) (r : RD) : RD × Int :=
  match aget r.l n with
  | none => (r, 8)
  | some _ => ({ r with l := adel r.l n }, 0)
def readD (n : SKey) (r : RD) : List UInt8 × Int :=
  if r.down then ([], 15) else match aget r.l n with
  | none => ([], 8)
  | some x => (x.1 ++ x.2, 0)
def deedD (f : RD → RD × Int) (r : RD) : RD × Int :=
  if r.down = true ∨ r.fuse = 0 then ({ r with down := true }, 15) else f { r with fuse := burn r.fuse }
def bootR : List Int → RL → RL
  | _, [] => []
  | ks, x :: r => if x.2.2 = [] then (x.1, x.2.1, []) :: bootR ks r else
    match ks with
    | [] => (x.1, x.2.1 ++ x.2.2, []) :: bootR [] r
    | q :: ks' => (x.1, x.2.1 ++ x.2.2.take (keptT q x.2.2.length), []) :: bootR ks' r
def bootD (ks : List Int) (r : RD) : RD := ⟨bootR ks r.l, r.room, -1, false⟩
def wantD (x : DAct) (r : RD) : RD × (List UInt8 × Int) :=
  if x.act = 0 then ((deedD (appendD x.A x.P) r).1, ([], (deedD (appendD x.A x.P) r).2))
  else if x.act = 1 then ((deedD (syncD x.A) r).1, ([], (deedD (syncD x.A) r).2))
  else if x.act = 2 then ((deedD (moveD x.A x.B) r).1, ([], (deedD (moveD x.A x.B) r).2))
  else if x.act = 3 then ((deedD (removeD x.A) r).1, ([], (deedD (removeD x.A) r).2))
  else if x.act = 4 then (r, readD x.A r)
  else if x.act = 5 then ({ r with fuse := max x.n (-1) }, ([], 0))
  else if x.act = 6 then (bootD x.K r, ([], 0))
  else if x.act = 7 then ((deedD (cutD x.A x.n) r).1, ([], (deedD (cutD x.A x.n) r).2))
  else (r, ([], 0))
section
variable {d : AD} {r : RD}
theorem sorted_keys {l : RL} (h : l.Pairwise (fun x y => ltN x.1 y.1 = true)) : l.Pairwise (fun x y => x.1 ≠ y.1) := h.imp (fun hab => ltN_ne hab)
theorem tell_keys {l : RL} (h : l.Pairwise (fun x y => ltN x.1 y.1 = true)) : (l.map tellR).Pairwise (fun x y => x.1 ≠ y.1) := by
  rw [List.pairwise_map]
  exact sorted_keys h
theorem Sim.len (h : Sim d r) : r.l.length = d.l.length := by
  have := h.perm.length_eq
  simpa using this
theorem Sim.tot (h : Sim d r) : totD r.l = totL d.l := by
  unfold totL
  rw [← (h.perm.map _).sum_nat, List.map_map]
  unfold totD
  congr 1
  refine List.map_congr_left (fun x _ => ?_)
  simp [tellR]
theorem Sim.get (h : Sim d r) (n : SKey) : aget d.l n = (aget r.l n).map (fun x => (x.1 ++ x.2, x.1.length)) := by
  rw [← get_tell]
  exact (perm_get h.perm (tell_keys h.sorted) n).symm
theorem put_sorted {l : RL} (h : l.Pairwise (fun x y => ltN x.1 y.1 = true)) {n : SKey} {y : List UInt8 × List UInt8} (hg : aget l n = some y) (x : List UInt8 × List UInt8) : (aput l n x).Pairwise (fun x y => ltN x.1 y.1 = true) := by
  unfold aput
  rw [if_pos (by rw [ahas_eq, hg]; rfl), List.pairwise_map]
  refine h.imp (fun {a b} hab => ?_)
  have h1 : (if a.1 = n then (n, x) else a).1 = a.1 := by split <;> simp_all
  have h2 : (if b.1 = n then (n, x) else b).1 = b.1 := by split <;> simp_all
  rw [h1, h2]
  exact hab
theorem Sim.put (h : Sim d r) {n : SKey} {y : List UInt8 × List UInt8} (hg : aget r.l n = some y) (x : List UInt8 × List UInt8) {v : List UInt8 × Nat} (hv : v = (x.1 ++ x.2, x.1.length)) : Sim (setA d n v) { r with l := aput r.l n x } := by
  subst hv
  exact ⟨h.room, h.fuse, h.down, by rw [put_tell]; exact perm_put h.perm n _, put_sorted h.sorted hg x⟩
theorem Sim.append (h : Sim d r) (hl : d.l.length ≤ 16) (n : SKey) (b : List UInt8) : (appendA n b d).2 = (appendD n b r).2 ∧ Sim (appendA n b d).1 (appendD n b r).1 := by
  unfold appendA appendD
  by_cases hn : nameB n.1 = false
  · rw [if_pos hn, if_pos hn]; exact ⟨rfl, h⟩
  rw [if_neg hn, if_neg hn]
  by_cases hf : r.room < (totD r.l : Int) + (b.length : Int)
  · rw [if_pos hf, if_pos (by rw [h.tot, h.room] at hf; omega)]; exact ⟨rfl, h⟩
  rw [if_neg hf, if_neg (by rw [h.tot, h.room] at hf; omega), h.get]
  have hle := h.len
  cases hg : aget r.l n with
  | none =>
    simp only [Option.map_none]
    by_cases h16 : 16 ≤ r.l.length
    · rw [if_pos h16, if_pos (by omega)]; exact ⟨rfl, h⟩
    · rw [if_neg h16, if_neg (by omega)]
      refine ⟨rfl, h.room, h.fuse, h.down, ?_, addA_sorted _ _ h.sorted (fun x hx => aget_no hg x hx)⟩
      have hh : ahas d.l n = false := by rw [ahas_eq, h.get, hg]; rfl
      unfold setA aput
      simp only
      rw [hh]
      simp only [Bool.false_eq_true, if_false]
      refine ((addG_perm _ _).map tellR).trans ?_
      rw [List.map_cons]
      exact (h.perm.cons _).trans (List.perm_append_singleton _ _).symm
  | some x =>
    simp only [Option.map_some]
    exact ⟨by first | rfl | trivial, h.put hg _ (by simp)⟩
theorem Sim.sync (h : Sim d r) (n : SKey) : (syncA n d).2 = (syncD n r).2 ∧ Sim (syncA n d).1 (syncD n r).1 := by
  unfold syncA syncD
  rw [h.get]
  cases hg : aget r.l n with
  | none => exact ⟨rfl, h⟩
  | some x =>
    simp only [Option.map_some]
    exact ⟨by first | rfl | trivial, h.put hg _ (by simp)⟩
theorem Sim.cut (h : Sim d r) (n : SKey) (k : Int) : (cutA n k d).2 = (cutD n k r).2 ∧ Sim (cutA n k d).1 (cutD n k r).1 := by
  unfold cutA cutD
  rw [h.get]
  cases hg : aget r.l n with
  | none => exact ⟨rfl, h⟩
  | some x =>
    simp only [Option.map_some]
    by_cases hk : k < 0 ∨ ((x.1 ++ x.2).length : Int) < k
    · rw [if_pos hk, if_pos hk]; exact ⟨rfl, h⟩
    · rw [if_neg hk, if_neg hk]
      exact ⟨rfl, h.put hg _ (by rw [List.append_nil, List.length_take, Nat.min_eq_left (by omega)])⟩
theorem Sim.move (h : Sim d r) (f t : SKey) : (moveA f t d).2 = (moveD f t r).2 ∧ Sim (moveA f t d).1 (moveD f t r).1 := by
  unfold moveA moveD
  rw [h.get]
  cases hg : aget r.l f with
  | none => exact ⟨rfl, h⟩
  | some x =>
    simp only [Option.map_some]
    by_cases hn : nameB t.1 = false
    · rw [if_pos hn, if_pos hn]; exact ⟨rfl, h⟩
    · rw [if_neg hn, if_neg hn]
      refine ⟨rfl, h.room, h.fuse, h.down, ?_, addA_sorted _ _ ((h.sorted.sublist List.filter_sublist).sublist List.filter_sublist) (fun x hx => by
        have := (List.mem_filter.1 hx).2
        simpa using this)⟩
      have hk : (adel d.l f).Pairwise (fun x y => x.1 ≠ y.1) := keys_del (h.perm.pairwise (tell_keys h.sorted) (fun hab => hab.symm)) f
      refine ((addG_perm _ _).map tellR).trans ?_
      rw [List.map_cons, del_tell, del_tell]
      refine List.Perm.trans ?_ (put_perm hk t _).symm
      simp only [tellR, List.append_nil]
      exact (perm_del (perm_del h.perm f) t).cons _
theorem Sim.remove (h : Sim d r) (n : SKey) : (removeA n d).2 = (removeD n r).2 ∧ Sim (removeA n d).1 (removeD n r).1 := by
  unfold removeA removeD
  rw [h.get]
  cases hg : aget r.l n with
  | none => exact ⟨rfl, h⟩
  | some x => exact ⟨rfl, h.room, h.fuse, h.down, by rw [del_tell]; exact perm_del h.perm n, h.sorted.sublist List.filter_sublist⟩
theorem Sim.read (h : Sim d r) (n : SKey) : readA n d = readD n r := by
  unfold readA readD
  rw [h.get, h.down]
  split
  · rfl
  · cases aget r.l n <;> rfl
theorem Sim.deed (h : Sim d r) {f : AD → AD × Int} {g : RD → RD × Int} (hl : d.l.length ≤ 16) (hf : ∀ {d r}, Sim d r → d.l.length ≤ 16 → (f d).2 = (g r).2 ∧ Sim (f d).1 (g r).1) : (deedA f d).2 = (deedD g r).2 ∧ Sim (deedA f d).1 (deedD g r).1 := by
  unfold deedA deedD
  by_cases hc : d.down = true ∨ d.fuse = 0
  · rw [if_pos hc, if_pos (by rw [h.down, h.fuse]; exact hc)]
    exact ⟨rfl, h.room, h.fuse, rfl, h.perm, h.sorted⟩
  · rw [if_neg hc, if_neg (by rw [h.down, h.fuse]; exact hc)]
    exact hf ⟨h.room, by simp only; rw [h.fuse], h.down, h.perm, h.sorted⟩ hl
theorem Sim.names (h : Sim d r) : namesOf d.l = r.l.map (fun x => keyL x.1) := by
  unfold namesOf
  have hp : (d.l.map (fun x => keyL x.1)).Perm (r.l.map (fun x => keyL x.1)) := by
    have := (h.perm.map (fun x => keyL x.1)).symm
    rw [List.map_map] at this
    exact this
  rw [mergeSort_of_perm hp]
  refine List.mergeSort_of_pairwise ?_
  rw [List.pairwise_map]
  refine h.sorted.imp (fun {a b} hab => ?_)
  unfold ltN at hab
  simp only [decide_eq_true_eq] at hab ⊢
  exact List.le_of_lt hab
end
theorem kept_take (S T : List UInt8) (q : Int) : (S ++ T).take (S.length + keptT q ((S ++ T).length - S.length)) = S ++ T.take (keptT q T.length) := by
  have : (S ++ T).length - S.length = T.length := by simp
  rw [this, List.take_append, List.take_of_length_le (by omega)]
  simp
theorem boot_fold : ∀ (rest : RL) (pre : FL) (dl : FL) (ks : List Int), dl.Perm (pre ++ rest.map tellR) → (pre ++ rest.map tellR).Pairwise (fun x y => x.1 ≠ y.1) →
    (((rest.map (fun x => keyL x.1)).foldl bootF (dl, ks)).1).Perm (pre ++ (bootR ks rest).map tellR)
  | [], pre, dl, ks, hp, _ => by simpa [bootR] using hp
  | x :: r, pre, dl, ks, hp, hk => by
    have hkd : dl.Pairwise (fun x y => x.1 ≠ y.1) := hp.symm.pairwise hk (fun hab => hab.symm)
    have hg : aget dl x.1 = some (x.2.1 ++ x.2.2, x.2.1.length) := by
      rw [perm_get hp hkd]
      exact aget_some hk (p := tellR x) (by simp)
    have step : ∀ (y : List UInt8 × Nat) (ks' : List Int) (b : SKey × List UInt8 × List UInt8), bootF (dl, ks) (keyL x.1) = (aput dl x.1 y, ks') → bootR ks (x :: r) = b :: bootR ks' r → tellR b = (x.1, y) →
        ((((x :: r).map (fun x => keyL x.1)).foldl bootF (dl, ks)).1).Perm (pre ++ (bootR ks (x :: r)).map tellR) := fun y ks' b h1 h2 h3 => by
      rw [List.map_cons, List.foldl_cons, h1, h2, List.map_cons, h3]
      have hmid : adel (pre ++ (x :: r).map tellR) x.1 = pre ++ r.map tellR := by
        rw [List.map_cons] at hk ⊢
        obtain ⟨_, hk2, hk3⟩ := List.pairwise_append.1 hk
        obtain ⟨hk4, _⟩ := List.pairwise_cons.1 hk2
        unfold adel
        rw [List.filter_append, List.filter_cons_of_neg (by simp [tellR])]
        congr 1
        · exact List.filter_eq_self.2 (fun p hp => by simpa [tellR] using hk3 p hp (tellR x) List.mem_cons_self)
        · exact List.filter_eq_self.2 (fun p hp => by simpa [tellR] using (hk4 p hp).symm)
      have hpp : (aput dl x.1 y).Perm ((pre ++ [(x.1, y)]) ++ r.map tellR) := by
        refine (perm_put hp x.1 y).trans ((put_perm hk x.1 y).trans ?_)
        rw [hmid, List.append_assoc]
        exact List.perm_middle.symm
      have hkk : ((pre ++ [(x.1, y)]) ++ r.map tellR).Pairwise (fun x y => x.1 ≠ y.1) := hpp.pairwise (keys_put hkd x.1 y) (fun hab => hab.symm)
      have := boot_fold r (pre ++ [(x.1, y)]) (aput dl x.1 y) ks' hpp hkk
      rw [List.append_assoc] at this
      exact this
    by_cases hT : x.2.2 = []
    · refine step (x.2.1 ++ x.2.2, (x.2.1 ++ x.2.2).length) ks (x.1, x.2.1, []) (bootF_none hg (by simp) (by rw [hT]; simp)) ?_ ?_
      · simp only [bootR]; rw [if_pos hT]
      · simp [tellR, hT]
    · have hlt : x.2.1.length < (x.2.1 ++ x.2.2).length := by
        have := List.length_pos_iff.2 hT
        rw [List.length_append]
        omega
      cases ks with
      | nil =>
        refine step (x.2.1 ++ x.2.2, (x.2.1 ++ x.2.2).length) [] (x.1, x.2.1 ++ x.2.2, []) (bootF_none hg (by simp) (by simp)) ?_ ?_
        · simp only [bootR]; rw [if_neg hT]
        · simp [tellR]
      | cons q ks' =>
        refine step _ ks' (x.1, x.2.1 ++ x.2.2.take (keptT q x.2.2.length), []) (bootF_some hg hlt) ?_ ?_
        · simp only [bootR]; rw [if_neg hT]
        · have h1 : (x.2.1 ++ x.2.2).length - x.2.1.length = x.2.2.length := by simp
          have h2 : keptT q x.2.2.length ≤ x.2.2.length := by unfold keptT; omega
          simp only [tellR, kept_take, List.append_nil]
          rw [h1, List.length_append, List.length_take, Nat.min_eq_left h2]
theorem bootR_keys : ∀ (l : RL) (ks : List Int), (bootR ks l).map Prod.fst = l.map Prod.fst
  | [], ks => by simp [bootR]
  | x :: r, ks => by
    simp only [bootR]
    split
    · simp [bootR_keys r]
    · split <;> simp [bootR_keys r]
theorem Sim.boot {d : AD} {r : RD} (h : Sim d r) (ks : List Int) : Sim (bootA ks d) (bootD ks r) := by
  refine ⟨h.room, rfl, rfl, ?_, ?_⟩
  · unfold bootA bootD
    simp only
    rw [h.names]
    exact (boot_fold r.l [] d.l ks h.perm.symm (tell_keys h.sorted)).symm
  · unfold bootD
    simp only
    have h1 : ((bootR ks r.l).map Prod.fst).Pairwise (fun x y => ltN x y = true) := by
      rw [bootR_keys, List.pairwise_map]
      exact h.sorted
    rw [List.pairwise_map] at h1
    exact h1
theorem Sim.act {d : AD} {r : RD} (h : Sim d r) (hl : d.l.length ≤ 16) (x : DAct) : (actA x d).2 = (wantD x r).2 ∧ Sim (actA x d).1 (wantD x r).1 := by
  unfold actA wantD
  split
  · have := h.deed hl (fun k hl => k.append hl x.A x.P); exact ⟨by rw [this.1], this.2⟩
  split
  · have := h.deed hl (fun k _ => k.sync x.A); exact ⟨by rw [this.1], this.2⟩
  split
  · have := h.deed hl (fun k _ => k.move x.A x.B); exact ⟨by rw [this.1], this.2⟩
  split
  · have := h.deed hl (fun k _ => k.remove x.A); exact ⟨by rw [this.1], this.2⟩
  split
  · exact ⟨h.read x.A, h⟩
  split
  · exact ⟨rfl, h.room, rfl, h.down, h.perm, h.sorted⟩
  split
  · exact ⟨rfl, h.boot x.K⟩
  split
  · have := h.deed hl (fun k _ => k.cut x.A x.n); exact ⟨by rw [this.1], this.2⟩
  · exact ⟨rfl, h⟩
end Go.Proofs.Ytopabknlgmihpaa
