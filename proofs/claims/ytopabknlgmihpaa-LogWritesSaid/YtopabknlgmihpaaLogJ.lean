/- A file that is written anew: the plain law. -/
import Derived.Test.YtopabknlgmihpaaLogI
namespace Go.Proofs.Ytopabknlgmihpaa
open Go Go.RowKit Go.MapKept Go.ChangeMaps Go.Maps

def nF : SKey := ⟨⟨#[108, 111, 103, 46, 102, 105, 120]⟩, by unfold maxLen; decide⟩
theorem okF : nameB nF.1 = true := by decide
theorem neLF : nL ≠ nF := by decide
/-- The first deed that fails, or none. -/
def firstA : List (AD → AD × Int) → AD → AD × Int
  | [], d => (d, 0)
  | f :: r, d => if (f d).2 = 0 then firstA r (f d).1 else f d
def nil8 (x : Int) : Int := if x = 8 then 0 else x
def wipeA (n : SKey) (d : AD) : AD × Int := ((deedA (removeA n) d).1, nil8 (deedA (removeA n) d).2)
def replaceA (n m : SKey) (b : List UInt8) : AD → AD × Int := firstA [wipeA m, deedA (appendA m b), deedA (syncA m), deedA (moveA m n)]
theorem firstA_zero {f : AD → AD × Int} {r : List (AD → AD × Int)} {d d' : AD} (h : f d = (d', 0)) : firstA (f :: r) d = firstA r d' := by
  rw [firstA, h]
  rfl
theorem firstA_fail {f : AD → AD × Int} {r : List (AD → AD × Int)} {d d' : AD} {x : Int} (h : f d = (d', x)) (hx : x ≠ 0) : firstA (f :: r) d = (d', x) := by
  rw [firstA, h]
  exact if_neg hx
section
variable {r f : Int} {n m : SKey} {A B : List UInt8} {k : Nat}
theorem wipe0 (hf : f ≠ 0) : wipeA m ⟨r, f, false, []⟩ = (⟨r, burn f, false, []⟩, 0) := by
  unfold wipeA
  rw [live _ _ rfl hf]
  simp [removeA, aget, nil8]
theorem wipe1 (hne : m ≠ n) (hf : f ≠ 0) (x : List UInt8 × Nat) : wipeA m ⟨r, f, false, [(n, x)]⟩ = (⟨r, burn f, false, [(n, x)]⟩, 0) := by
  unfold wipeA
  rw [live _ _ rfl hf]
  unfold removeA
  simp only [get1n _ hne]
  simp [nil8]
theorem wipeD (l : FL) (dn : Bool) : wipeA m ⟨r, 0, dn, l⟩ = (⟨r, 0, true, l⟩, 15) := by
  unfold wipeA
  rw [dead0]
  rfl
theorem move1 (hn : nameB n.1 = true) (hf : f ≠ 0) : deedA (moveA m n) ⟨r, f, false, [(m, (B, k))]⟩ = (⟨r, burn f, false, [(n, (B, B.length))]⟩, 0) := by
  rw [live _ _ rfl hf]
  unfold moveA
  simp only [get1, del1, put0]
  rw [if_neg (by rw [hn]; simp)]
theorem boot2s (ks : List Int) (dn : Bool) (hne : m ≠ n) (hle : leB (keyL n) (keyL m) = true) (j2 : Nat) (h2 : j2 ≤ B.length) : ∃ y, bootA ks ⟨r, f, dn, [(n, (A, A.length)), (m, (B, j2))]⟩ = ⟨r, -1, false, [(n, (A, A.length)), (m, y)]⟩ := by
  unfold bootA
  simp only [names2 hle, List.foldl_cons, List.foldl_nil]
  rw [bootF_none (get2a _ _) (Nat.le_refl _) (fun h => by have := h.1; simp at this)]
  simp only [put2a _ _ _ hne]
  by_cases h : j2 < B.length ∧ ks ≠ []
  · obtain ⟨q, t, rfl⟩ : ∃ q t, ks = q :: t := by
      cases ks with
      | nil => exact absurd rfl h.2
      | cons q t => exact ⟨q, t, rfl⟩
    rw [bootF_some (get2b _ _ hne) h.1]
    simp only [put2b _ _ _ hne]
    exact ⟨_, rfl⟩
  · rw [bootF_none (get2b _ _ hne) h2 h]
    simp only [put2b _ _ _ hne]
    exact ⟨_, rfl⟩
end
/-- A new disk's file is the records'. -/
theorem write_new {b : List UInt8} (hb : b.length ≤ 2000) : replaceA nL nF b ⟨10000, -1, false, []⟩ = (⟨10000, -1, false, [(nL, (b, b.length))]⟩, 0) := by
  unfold replaceA
  rw [firstA_zero (wipe0 (by omega)), burnN, firstA_zero (append0 okF (by omega) (by omega)), burnN, firstA_zero (sync1 (by omega)), burnN, firstA_zero (move1 okL (by omega)), burnN]
  rfl
theorem open_whole {d : AD} {rs : List (List UInt8)} (h : readA nL d = (rs.flatMap formB, 0)) (hs : ∀ p ∈ rs, p.length ≤ 100) (hl : rs.length ≤ 10) : CanOpen d rs := by
  refine ⟨_, 0, d, h, Or.inl rfl, ⟨⟨[], by simp, Or.inl rfl⟩, fun p hp => by have := hs p hp; omega, ?_, by omega⟩, Or.inr ⟨by rw [offB_all]; omega, rfl⟩⟩
  have := forms_le hs
  omega
/-- Written anew, the power off at any deed: the old records or the new ones. -/
theorem write_anew {a b : List (List UInt8)} (hsa : ∀ p ∈ a, p.length ≤ 100) (hsb : ∀ p ∈ b, p.length ≤ 100) (hla : a.length ≤ 10) (hlb : b.length ≤ 10) {f : Int} (hf : 0 ≤ f ∧ f < 6) (q : Int) :
    ∃ d er, replaceA nL nF (b.flatMap formB) ⟨10000, f, false, [(nL, (a.flatMap formB, (a.flatMap formB).length))]⟩ = (d, er) ∧ ((er = 0 ∧ CanOpen (bootA [q] d) b) ∨ (er = 15 ∧ CanOpen (bootA [q] d) a)) := by
  have h1 := forms_le hsa
  have h2 := forms_le hsb
  have hne : nF ≠ nL := fun h => neLF h.symm
  have hle : leB (keyL nL) (keyL nF) = true := by decide
  unfold replaceA
  rcases (show f = 0 ∨ f = 1 ∨ f = 2 ∨ f = 3 ∨ f = 4 ∨ f = 5 by omega) with rfl | rfl | rfl | rfl | rfl | rfl
  · refine ⟨_, _, firstA_fail (wipeD _ _) (by omega), Or.inr ⟨rfl, open_whole ?_ hsa hla⟩⟩
    rw [boot1s, read1]
  · rw [firstA_zero (wipe1 hne (by omega) _)]
    refine ⟨_, _, firstA_fail (dead0 _ _ _) (by omega), Or.inr ⟨rfl, open_whole ?_ hsa hla⟩⟩
    rw [boot1s, read1]
  · rw [firstA_zero (wipe1 hne (by omega) _), firstA_zero (append1n okF hne (by unfold burn; simp) (by omega))]
    refine ⟨_, _, firstA_fail (dead0 _ _ _) (by omega), Or.inr ⟨rfl, open_whole ?_ hsa hla⟩⟩
    obtain ⟨y, hy⟩ := boot2s (r := 10000) (f := 0) (A := a.flatMap formB) (B := b.flatMap formB) [q] true hne hle 0 (Nat.zero_le _)
    rw [hy, read2a]
  · rw [firstA_zero (wipe1 hne (by omega) _), firstA_zero (append1n okF hne (by unfold burn; simp) (by omega)), firstA_zero (sync2b hne (by unfold burn; simp) _)]
    refine ⟨_, _, firstA_fail (dead0 _ _ _) (by omega), Or.inr ⟨rfl, open_whole ?_ hsa hla⟩⟩
    obtain ⟨y, hy⟩ := boot2s (r := 10000) (f := 0) (A := a.flatMap formB) (B := b.flatMap formB) [q] true hne hle (b.flatMap formB).length (Nat.le_refl _)
    rw [hy, read2a]
  · rw [firstA_zero (wipe1 hne (by omega) _), firstA_zero (append1n okF hne (by unfold burn; simp) (by omega)), firstA_zero (sync2b hne (by unfold burn; simp) _), firstA_zero (move2 okL hne (by unfold burn; simp) _)]
    refine ⟨_, _, rfl, Or.inl ⟨rfl, open_whole ?_ hsb hlb⟩⟩
    rw [boot1s, read1]
  · rw [firstA_zero (wipe1 hne (by omega) _), firstA_zero (append1n okF hne (by unfold burn; simp) (by omega)), firstA_zero (sync2b hne (by unfold burn; simp) _), firstA_zero (move2 okL hne (by unfold burn; simp) _)]
    refine ⟨_, _, rfl, Or.inl ⟨rfl, open_whole ?_ hsb hlb⟩⟩
    rw [boot1s, read1]
end Go.Proofs.Ytopabknlgmihpaa
