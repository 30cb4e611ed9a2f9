/- The disk's laws in plain words: what a few deeds come to. -/
import Derived.Test.YtopabknlgmihpaaDiskBoot
import Derived.Test.YtopabknlgmihpaaSame
namespace Go.Proofs.Ytopabknlgmihpaa
open Go Go.RowKit Go.MapKept Go.ChangeMaps Go.Maps Go.Sort

def nA : SKey := ⟨⟨#[97]⟩, by unfold maxLen; decide⟩
def nX : SKey := ⟨⟨#[120]⟩, by unfold maxLen; decide⟩
def nY : SKey := ⟨⟨#[121]⟩, by unfold maxLen; decide⟩
def nOld : SKey := ⟨⟨#[111, 108, 100]⟩, by unfold maxLen; decide⟩
def nNew : SKey := ⟨⟨#[110, 101, 119]⟩, by unfold maxLen; decide⟩
theorem okA : nameB nA.1 = true := by decide
theorem okX : nameB nX.1 = true := by decide
theorem okY : nameB nY.1 = true := by decide
theorem okOld : nameB nOld.1 = true := by decide
theorem okNew : nameB nNew.1 = true := by decide
theorem neXY : nX ≠ nY := by decide
theorem neON : nOld ≠ nNew := by decide

theorem goodNew (r : Int) (h0 : 0 ≤ r) (h : r ≤ 1073741824) : AD.Good ⟨r, -1, false, []⟩ := ⟨List.Pairwise.nil, (fun x hx => by cases hx), (by simp), (by simpa [totL] using h0), ⟨h0, h⟩, (by simp)⟩
section
variable {r f : Int} {n m : SKey} {A B : List UInt8} {k : Nat}
theorem get1 (x : List UInt8 × Nat) : aget [(n, x)] n = some x := by simp [aget]
theorem get1n (x : List UInt8 × Nat) (h : m ≠ n) : aget [(n, x)] m = none := by simp [aget, h.symm]
theorem put1 (x y : List UInt8 × Nat) : aput [(n, x)] n y = [(n, y)] := by simp [aput, ahas]
theorem put0 (y : List UInt8 × Nat) : aput ([] : FL) n y = [(n, y)] := by simp [aput, ahas]
theorem put1n (x y : List UInt8 × Nat) (h : m ≠ n) : aput [(n, x)] m y = [(n, x), (m, y)] := by simp [aput, ahas, h.symm]
theorem del1 (x : List UInt8 × Nat) : adel [(n, x)] n = [] := by simp [adel]
theorem tot1 (x : List UInt8 × Nat) : totL [(n, x)] = x.1.length := by simp [totL]
theorem tot2 (x y : List UInt8 × Nat) : totL [(n, x), (m, y)] = x.1.length + y.1.length := by simp [totL]
theorem get2a (x y : List UInt8 × Nat) : aget [(n, x), (m, y)] n = some x := by simp [aget]
theorem get2b (x y : List UInt8 × Nat) (h : m ≠ n) : aget [(n, x), (m, y)] m = some y := by simp [aget, h.symm]
theorem put2a (x y z : List UInt8 × Nat) (h : m ≠ n) : aput [(n, x), (m, y)] n z = [(n, z), (m, y)] := by simp [aput, ahas, h]
theorem put2b (x y z : List UInt8 × Nat) (h : m ≠ n) : aput [(n, x), (m, y)] m z = [(n, x), (m, z)] := by simp [aput, ahas, h.symm]
theorem del2b (x y : List UInt8 × Nat) (h : m ≠ n) : adel [(n, x), (m, y)] m = [(n, x)] := by simp [adel, h.symm]

theorem live (d : AD) (g : AD → AD × Int) (h1 : d.down = false) (h2 : d.fuse ≠ 0) : deedA g d = g { d with fuse := burn d.fuse } := by
  unfold deedA
  rw [if_neg (by rw [h1]; simpa using h2)]
theorem dead0 (l : FL) (g : AD → AD × Int) (dn : Bool) : deedA g ⟨r, 0, dn, l⟩ = (⟨r, 0, true, l⟩, 15) := by
  unfold deedA
  rw [if_pos (Or.inr rfl)]
theorem deadD (l : FL) (g : AD → AD × Int) : deedA g ⟨r, f, true, l⟩ = (⟨r, f, true, l⟩, 15) := by
  unfold deedA
  rw [if_pos (Or.inl rfl)]
theorem append0 (hn : nameB n.1 = true) (hf : f ≠ 0) (hr : (A.length : Int) ≤ r) : deedA (appendA n A) ⟨r, f, false, []⟩ = (⟨r, burn f, false, [(n, (A, 0))]⟩, 0) := by
  rw [live _ _ rfl hf]
  unfold appendA
  rw [if_neg (by rw [hn]; simp), if_neg (by simp [totL]; omega)]
  rfl
theorem append1 (hn : nameB n.1 = true) (hf : f ≠ 0) (hr : (A.length + B.length : Int) ≤ r) : deedA (appendA n B) ⟨r, f, false, [(n, (A, k))]⟩ = (⟨r, burn f, false, [(n, (A ++ B, k))]⟩, 0) := by
  rw [live _ _ rfl hf]
  unfold appendA
  rw [if_neg (by rw [hn]; simp), if_neg (by simp [totL]; omega)]
  simp only [get1, setA, put1]
theorem append1n (hn : nameB m.1 = true) (hne : m ≠ n) (hf : f ≠ 0) (hr : (A.length + B.length : Int) ≤ r) : deedA (appendA m B) ⟨r, f, false, [(n, (A, k))]⟩ = (⟨r, burn f, false, [(n, (A, k)), (m, (B, 0))]⟩, 0) := by
  rw [live _ _ rfl hf]
  unfold appendA
  rw [if_neg (by rw [hn]; simp), if_neg (by simp [totL]; omega)]
  simp only [get1n _ hne, setA, put1n _ _ hne]
  rfl
theorem sync1 (hf : f ≠ 0) : deedA (syncA n) ⟨r, f, false, [(n, (A, k))]⟩ = (⟨r, burn f, false, [(n, (A, A.length))]⟩, 0) := by
  rw [live _ _ rfl hf]
  unfold syncA
  simp only [get1, setA, put1]
theorem sync2b (hne : m ≠ n) (hf : f ≠ 0) (y : List UInt8 × Nat) : deedA (syncA m) ⟨r, f, false, [(n, y), (m, (B, k))]⟩ = (⟨r, burn f, false, [(n, y), (m, (B, B.length))]⟩, 0) := by
  rw [live _ _ rfl hf]
  unfold syncA
  simp only [get2b _ _ hne, setA, put2b _ _ _ hne]
theorem move2 (hn : nameB n.1 = true) (hne : m ≠ n) (hf : f ≠ 0) (x : List UInt8 × Nat) : deedA (moveA m n) ⟨r, f, false, [(n, x), (m, (B, k))]⟩ = (⟨r, burn f, false, [(n, (B, B.length))]⟩, 0) := by
  rw [live _ _ rfl hf]
  unfold moveA
  simp only [get2b _ _ hne, del2b _ _ hne, put1]
  rw [if_neg (by rw [hn]; simp)]
theorem names1 (x : List UInt8 × Nat) : namesOf [(n, x)] = [keyL n] := by simp [namesOf]
theorem names2 (h : leB (keyL n) (keyL m) = true) (x y : List UInt8 × Nat) : namesOf [(n, x), (m, y)] = [keyL n, keyL m] := by
  unfold namesOf
  refine List.mergeSort_of_pairwise ?_
  simpa using h
theorem boot1s (ks : List Int) (dn : Bool) : bootA ks ⟨r, f, dn, [(n, (A, A.length))]⟩ = ⟨r, -1, false, [(n, (A, A.length))]⟩ := by
  unfold bootA
  simp only [names1, List.foldl_cons, List.foldl_nil]
  rw [bootF_none (get1 _) (Nat.le_refl _) (fun h => by have := h.1; simp at this), put1]
theorem boot1t (q : Int) (ks : List Int) (dn : Bool) (hk : k ≤ A.length) : ∃ j, k ≤ j ∧ j ≤ A.length ∧ bootA (q :: ks) ⟨r, f, dn, [(n, (A, k))]⟩ = ⟨r, -1, false, [(n, (A.take j, j))]⟩ := by
  unfold bootA
  simp only [names1, List.foldl_cons, List.foldl_nil]
  by_cases h : k < A.length
  · rw [bootF_some (get1 _) h]
    refine ⟨k + keptT q (A.length - k), by omega, ?_, ?_⟩
    · unfold keptT; omega
    · simp only [put1]
  · have hk' : k = A.length := by omega
    rw [bootF_none (get1 _) hk (fun h0 => h h0.1)]
    refine ⟨A.length, by omega, Nat.le_refl _, ?_⟩
    simp only [put1, List.take_length]
theorem boot2t (q1 q2 : Int) (dn : Bool) (hne : m ≠ n) (hle : leB (keyL n) (keyL m) = true) (hk : k ≤ A.length) (j2 : Nat) (h2 : j2 ≤ B.length) : ∃ j y, k ≤ j ∧ j ≤ A.length ∧ bootA [q1, q2] ⟨r, f, dn, [(n, (A, k)), (m, (B, j2))]⟩ = ⟨r, -1, false, [(n, (A.take j, j)), (m, y)]⟩ := by
  unfold bootA
  simp only [names2 hle, List.foldl_cons, List.foldl_nil]
  have h0 : ∃ j ks, k ≤ j ∧ j ≤ A.length ∧ bootF ([(n, (A, k)), (m, (B, j2))], [q1, q2]) (keyL n) = ([(n, (A.take j, j)), (m, (B, j2))], ks) := by
    by_cases h : k < A.length
    · rw [bootF_some (get2a _ _) h]
      refine ⟨k + keptT q1 (A.length - k), [q2], by omega, ?_, ?_⟩
      · unfold keptT; omega
      · simp only [put2a _ _ _ hne]
    · rw [bootF_none (get2a _ _) hk (fun h0 => h h0.1)]
      refine ⟨A.length, [q1, q2], by omega, Nat.le_refl _, ?_⟩
      simp only [put2a _ _ _ hne, List.take_length]
  obtain ⟨j, ks, h1, h3, h4⟩ := h0
  rw [h4]
  have h5 : ∃ y, (bootF ([(n, (A.take j, j)), (m, (B, j2))], ks) (keyL m)).1 = [(n, (A.take j, j)), (m, y)] := by
    by_cases h : j2 < B.length ∧ ks ≠ []
    · obtain ⟨q, r, rfl⟩ : ∃ q r, ks = q :: r := by
        cases ks with
        | nil => exact absurd rfl h.2
        | cons q r => exact ⟨q, r, rfl⟩
      rw [bootF_some (get2b _ _ hne) h.1]
      simp only [put2b _ _ _ hne]
      exact ⟨_, rfl⟩
    · rw [bootF_none (get2b _ _ hne) h2 h]
      simp only [put2b _ _ _ hne]
      exact ⟨_, rfl⟩
  obtain ⟨y, hy⟩ := h5
  exact ⟨j, y, h1, h3, by rw [hy]⟩
theorem read1 : readA n ⟨r, f, false, [(n, (A, k))]⟩ = (A, 0) := by
  unfold readA
  simp only [get1]
  rfl
theorem read1n (h : m ≠ n) : readA m ⟨r, f, false, [(n, (A, k))]⟩ = ([], 8) := by
  unfold readA
  simp only [get1n _ h]
  rfl
theorem read2a (y : List UInt8 × Nat) : readA n ⟨r, f, false, [(n, (A, k)), (m, y)]⟩ = (A, 0) := by
  unfold readA
  simp only [get2a]
  rfl
theorem cut1 (hf : f ≠ 0) (j : Int) : deedA (cutA n j) ⟨r, f, false, [(n, (A, k))]⟩ = if j < 0 ∨ (A.length : Int) < j then (⟨r, burn f, false, [(n, (A, k))]⟩, 6) else (⟨r, burn f, false, [(n, (A.take j.toNat, j.toNat))]⟩, 0) := by
  rw [live _ _ rfl hf]
  unfold cutA
  simp only [get1, setA, put1]
end
theorem burnN : burn (-1) = -1 := rfl
/-- What was synced stays: the plain law. -/
theorem keeps_plain (A B : List UInt8) (hA : A.length ≤ 100) (hB : B.length ≤ 100) (q : Int) (f : Int) (hf : 0 ≤ f ∧ f < 3) :
    ∃ d1 d2 d3 e1 e2 e3, deedA (appendA nX B) ⟨1000, f, false, [(nX, (A, A.length))]⟩ = (d1, e1) ∧ deedA (appendA nY B) d1 = (d2, e2) ∧ deedA (syncA nY) d2 = (d3, e3) ∧ (bootA [q, q] d3).down = false ∧
      ∃ j, j ≤ B.length ∧ readA nX (bootA [q, q] d3) = (A ++ B.take j, 0) := by
  have hne : nY ≠ nX := fun h => neXY h.symm
  have hle : leB (keyL nX) (keyL nY) = true := by decide
  have htk : ∀ j, A.length ≤ j → j ≤ (A ++ B).length → ∃ i, i ≤ B.length ∧ (A ++ B).take j = A ++ B.take i := fun j h1 h2 => by
    refine ⟨j - A.length, by simp at h2; omega, ?_⟩
    rw [List.take_append, List.take_of_length_le h1]
  rcases (show f = 0 ∨ f = 1 ∨ f = 2 by omega) with rfl | rfl | rfl
  · refine ⟨_, _, _, _, _, _, dead0 _ _ _, dead0 _ _ _, dead0 _ _ _, ?_, 0, Nat.zero_le _, ?_⟩
    · rw [boot1s]
    · rw [boot1s, read1]; simp
  · refine ⟨_, _, _, _, _, _, append1 okX (by omega) (by omega), dead0 _ _ _, dead0 _ _ _, ?_, ?_⟩
    · obtain ⟨j, h1, h2, h3⟩ := boot1t (r := 1000) (f := 0) (n := nX) (A := A ++ B) (k := A.length) q [q] true (by simp)
      rw [h3]
    · obtain ⟨j, h1, h2, h3⟩ := boot1t (r := 1000) (f := 0) (n := nX) (A := A ++ B) (k := A.length) q [q] true (by simp)
      rw [h3, read1]
      obtain ⟨i, hi, e⟩ := htk j h1 h2
      exact ⟨i, hi, by rw [e]⟩
  · refine ⟨_, _, _, _, _, _, append1 okX (by omega) (by omega), append1n okY hne (by decide) (by simp; omega), dead0 _ _ _, ?_, ?_⟩
    · obtain ⟨j, y, h1, h2, h3⟩ := boot2t (r := 1000) (f := 0) (A := A ++ B) (B := B) (k := A.length) q q true hne hle (by simp) 0 (by omega)
      rw [h3]
    · obtain ⟨j, y, h1, h2, h3⟩ := boot2t (r := 1000) (f := 0) (A := A ++ B) (B := B) (k := A.length) q q true hne hle (by simp) 0 (by omega)
      rw [h3, read2a]
      obtain ⟨i, hi, e⟩ := htk j h1 h2
      exact ⟨i, hi, by rw [e]⟩
end Go.Proofs.Ytopabknlgmihpaa
