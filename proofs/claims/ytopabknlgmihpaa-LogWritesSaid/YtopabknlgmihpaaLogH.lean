/- The log's plain law: a file of whole forms and a beginning of one. -/
import Derived.Test.YtopabknlgmihpaaLogG
namespace Go.Proofs.Ytopabknlgmihpaa
open Go Go.RowKit Go.MapKept Go.ChangeMaps Go.Maps

theorem formB_cons (p : List UInt8) : ∃ r, formB p = UInt8.ofNat p.length :: r ∧ r.length = p.length + 4 := ⟨fourB (crcI ([UInt8.ofNat p.length] ++ p)) ++ p, rfl, by
  have := formB_len p
  unfold formB at this
  rw [List.length_append] at this
  simp only [List.length_cons, List.length_nil] at this
  omega⟩
/-- Of forms that are cut off: the whole ones, and what is none. -/
theorem take_forms : ∀ (rs : List (List UInt8)), (∀ p ∈ rs, p.length ≤ 200) → ∀ j, ∃ m, m ≤ rs.length ∧ ∃ part, (rs.flatMap formB).take j = (rs.take m).flatMap formB ++ part ∧ Stuck part := by
  intro rs
  induction rs with
  | nil => exact fun _ j => ⟨0, Nat.le_refl _, [], by simp, Or.inl rfl⟩
  | cons x r ih =>
    intro hs j
    by_cases hj : j < (formB x).length
    · refine ⟨0, Nat.zero_le _, (formB x).take j, ?_, ?_⟩
      · rw [List.flatMap_cons, List.take_append_of_le_length (by omega)]
        simp
      · cases j with
        | zero => exact Or.inl (by simp)
        | succ j =>
          obtain ⟨t, ht, htl⟩ := formB_cons x
          have hx := hs x (by simp)
          have hv : (UInt8.ofNat x.length).toNat = x.length := by have := ofNat_val (show x.length < 256 by omega); omega
          refine Or.inr ⟨UInt8.ofNat x.length, t.take j, by rw [ht]; rfl, ?_, ?_⟩
          · rw [hv]; exact hx
          · rw [hv, List.length_take]
            rw [formB_len] at hj
            omega
    · obtain ⟨m, hm, part, hp, hst⟩ := ih (fun p hp => hs p (by simp [hp])) (j - (formB x).length)
      refine ⟨m + 1, by simp; omega, part, ?_, hst⟩
      rw [List.flatMap_cons, List.take_append, List.take_of_length_le (by omega), hp]
      simp
def nL : SKey := ⟨⟨#[108, 111, 103]⟩, by unfold maxLen; decide⟩
theorem okL : nameB nL.1 = true := by decide
def flL (l : List (List UInt8)) (k : Nat) : FL := if l = [] then [] else [(nL, (l.flatMap formB, k))]
theorem flL_some {l : List (List UInt8)} {k : Nat} (h : l ≠ []) : flL l k = [(nL, (l.flatMap formB, k))] := if_neg h
theorem forms_le {l : List (List UInt8)} (h : ∀ p ∈ l, p.length ≤ 100) : (l.flatMap formB).length ≤ 105 * l.length := by
  induction l with
  | nil => simp
  | cons x r ih =>
    have h1 := ih (fun p hp => h p (by simp [hp]))
    have h2 := h x (by simp)
    rw [List.flatMap_cons, List.length_append, formB_len, List.length_cons]
    omega
theorem add_live {l : List (List UInt8)} {x : List UInt8} {k : Nat} {f : Int} (hk : l = [] → k = 0) (hf : f ≠ 0) (hs : ∀ p ∈ l, p.length ≤ 100) (hx : x.length ≤ 100) (hl : l.length ≤ 25) :
    deedA (appendA nL (formB x)) ⟨10000, f, false, flL l k⟩ = (⟨10000, burn f, false, flL (l ++ [x]) k⟩, 0) := by
  have hfl := formB_len x
  by_cases h : l = []
  · have h0 := hk h
    subst h h0
    rw [flL_some (show [] ++ [x] ≠ [] by simp)]
    have : flL [] 0 = [] := rfl
    rw [this, append0 okL hf (by omega)]
    simp
  · have h1 := forms_le hs
    rw [flL_some h, flL_some (show l ++ [x] ≠ [] by simp), append1 okL hf (by omega)]
    simp
theorem flush_live {l : List (List UInt8)} {k : Nat} {f : Int} (hf : f ≠ 0) : ∃ e, deedA (syncA nL) ⟨10000, f, false, flL l k⟩ = (⟨10000, burn f, false, flL l (l.flatMap formB).length⟩, e) ∧ (e = 0 ∨ e = 8) := by
  by_cases h : l = []
  · subst h
    refine ⟨8, ?_, Or.inr rfl⟩
    rw [live _ _ rfl hf]
    unfold syncA flL
    simp [aget]
  · exact ⟨0, by rw [flL_some h, flL_some h, sync1 hf], Or.inl rfl⟩
/-- Behind the fuse: of the second records a beginning is there. -/
def ErB (a b : List (List UInt8)) (j : Nat) (d : AD) : Prop := ∃ m f dn, d = ⟨10000, f, dn, flL (a ++ b.take m) (a.flatMap formB).length⟩ ∧ m ≤ j ∧ m ≤ b.length ∧ 0 ≤ f ∧ (dn = false → f ≠ 0 → m = j)
theorem ErB.step {a b : List (List UInt8)} {j : Nat} {d : AD} {x : List UInt8} (h : ErB a b j d) (hx : b[j]? = some x) (ha : ∀ p ∈ a, p.length ≤ 100) (hb : ∀ p ∈ b, p.length ≤ 100) (hal : a.length ≤ 10) (hbl : b.length ≤ 10) : ErB a b (j + 1) (deedA (appendA nL (formB x)) d).1 := by
  obtain ⟨m, f, dn, rfl, hm, hmb, hf, hd⟩ := h
  have hj : j < b.length := (List.getElem?_eq_some_iff.1 hx).1
  cases dn with
  | true =>
    rw [deadD]
    exact ⟨m, f, true, rfl, by omega, hmb, hf, fun h => by cases h⟩
  | false =>
    by_cases h0 : f = 0
    · subst h0
      rw [dead0]
      exact ⟨m, 0, true, rfl, by omega, hmb, by omega, fun h => by cases h⟩
    · have hmj := hd rfl h0
      subst hmj
      have hxb : x.length ≤ 100 := hb x (List.mem_of_getElem? hx)
      rw [add_live (fun h => by rw [(List.append_eq_nil_iff.1 h).1]; rfl) h0 (fun p hp => by
        rcases List.mem_append.1 hp with hp | hp
        · exact ha p hp
        · exact hb p (List.mem_of_mem_take hp)) hxb (by rw [List.length_append, List.length_take]; omega)]
      have ht : a ++ b.take m ++ [x] = a ++ b.take (m + 1) := by
        rw [List.take_add_one, hx]
        simp
      rw [ht]
      exact ⟨m + 1, burn f, false, rfl, by omega, by omega, by unfold burn; split <;> omega, fun _ _ => rfl⟩
theorem file_nil : FileB [] [] := ⟨⟨[], by simp, Or.inl rfl⟩, (fun p hp => by simp at hp), by simp, by simp⟩
theorem offB_all (rs : List (List UInt8)) : offB rs rs.length = (rs.flatMap formB).length := by unfold offB; rw [List.take_length]
/-- What a log needs to be opened: a file of the records rs. -/
def CanOpen (d : AD) (rs : List (List UInt8)) : Prop := ∃ b er d2, readA nL d = (b, er) ∧ (er = 0 ∨ er = 8) ∧ FileB b rs ∧ ((offB rs rs.length < b.length ∧ deedA (cutA nL (offB rs rs.length : Nat)) d = (d2, 0)) ∨ (¬ offB rs rs.length < b.length ∧ d2 = d))
theorem open_none (r f : Int) : CanOpen ⟨r, f, false, []⟩ [] := ⟨[], 8, _, by simp [readA, aget], Or.inr rfl, file_nil, Or.inr ⟨by simp [offB], rfl⟩⟩
theorem open_some (r f : Int) (hf : f ≠ 0) {b : List UInt8} {rs : List (List UInt8)} (h : FileB b rs) (k : Nat) : CanOpen ⟨r, f, false, [(nL, (b, k))]⟩ rs := by
  by_cases hl : offB rs rs.length < b.length
  · have hc : deedA (cutA nL (offB rs rs.length : Nat)) ⟨r, f, false, [(nL, (b, k))]⟩ = _ := (cut1 hf _).trans (if_neg (by omega))
    exact ⟨b, 0, _, read1, Or.inl rfl, h, Or.inl ⟨hl, hc⟩⟩
  · exact ⟨b, 0, _, read1, Or.inl rfl, h, Or.inr ⟨hl, rfl⟩⟩
theorem ErB.boot {a b : List (List UInt8)} {j : Nat} {d : AD} (h : ErB a b j d) (q : Int) (ha : ∀ p ∈ a, p.length ≤ 100) (hb : ∀ p ∈ b, p.length ≤ 100) (hal : a.length ≤ 10) (hbl : b.length ≤ 10) : ∃ m, m ≤ b.length ∧ CanOpen (bootA [q] d) (a ++ b.take m) := by
  obtain ⟨m, f, dn, rfl, hm, hmb, hf, hd⟩ := h
  by_cases h0 : a ++ b.take m = []
  · refine ⟨m, hmb, ?_⟩
    rw [h0]
    have : bootA [q] ⟨10000, f, dn, flL [] (a.flatMap formB).length⟩ = ⟨10000, -1, false, []⟩ := by unfold bootA flL; simp [namesOf]
    rw [this]
    exact open_none _ _
  · rw [flL_some h0]
    obtain ⟨i, hi1, hi2, hbt⟩ := boot1t (n := nL) (r := 10000) (f := f) (A := (a ++ b.take m).flatMap formB) (k := (a.flatMap formB).length) q [] dn (by rw [List.flatMap_append, List.length_append]; omega)
    rw [hbt]
    obtain ⟨m2, hm2, part, hp, hst⟩ := take_forms (b.take m) (fun p hp => by have := hb p (List.mem_of_mem_take hp); omega) (i - (a.flatMap formB).length)
    have hm3 : m2 ≤ m := by rw [List.length_take] at hm2; omega
    refine ⟨m2, by omega, open_some _ _ (by omega) ⟨⟨part, ?_, hst⟩, ?_, ?_, ?_⟩ _⟩
    · rw [List.flatMap_append, List.take_append, List.take_of_length_le hi1, hp, List.take_take, Nat.min_eq_left hm3]
      simp
    · intro p hp
      rcases List.mem_append.1 hp with hp | hp
      · have := ha p hp; omega
      · have := hb p (List.mem_of_mem_take hp); omega
    · have h1 : ((a ++ b.take m).flatMap formB).length ≤ 105 * (a ++ b.take m).length := forms_le (fun p hp => by
        rcases List.mem_append.1 hp with hp | hp
        · exact ha p hp
        · exact hb p (List.mem_of_mem_take hp))
      have h2 : (a ++ b.take m).length ≤ 20 := by rw [List.length_append, List.length_take]; omega
      rw [List.length_take]
      omega
    · rw [List.length_append, List.length_take]
      omega
end Go.Proofs.Ytopabknlgmihpaa
