/- The document's disk: Read. -/
import Derived.Test.YtopabknlgmihpaaRef12F
import Derived.Test.YtopabknlgmihpaaDiskK
namespace Go.Proofs.Ytopabknlgmihpaa
open Go Go.RowKit Go.MapKept Go.ChangeMaps Go.Maps

theorem atR_is (l : List RF) (n : SKey) : atR l n < 0 ∨ ∃ (k : Nat) (f : RF), atR l n = k ∧ l[k]? = some f ∧ f.name = n := by
  unfold atR
  cases h : l.findIdx? (fun f => decide (f.name = n)) with
  | none => exact Or.inl (by simp only; omega)
  | some k =>
    obtain ⟨hk, h1, _⟩ := List.findIdx?_eq_some_iff_getElem.1 h
    exact Or.inr ⟨k, l[k], rfl, by simp [hk], by simpa using h1⟩
def readR (s : RkS) (n : SKey) : List UInt8 × Int := if s.down then ([], 15) else if atR s.l n < 0 then ([], 8) else match s.l[(atR s.l n).toNat]? with
  | none => ([], 8)
  | some f => (f.S ++ f.T, 0)
set_option maxRecDepth 100000 in
set_option maxHeartbeats 3200000 in
theorem RefRead12_any (w : World) (q : Nat) (s : RkS) (n : SKey) (h : Rk w q s) (hl : s.l.length ≤ 1000) (hs : ∀ f ∈ s.l, f.S.length + f.T.length ≤ 1073741824) : Calls Try.prog 50 #[.pointer (some ⟨q, 0, none⟩), .string n.1] w (ReadPost w (readR s n)) := by
  obtain ⟨c0, _, _, c3⟩ := h.cells
  have HA := hid (RefAt_any w q s n h hl)
  have HH := hid h
  cases hdn : s.down with
  | true =>
    have HR := hid (show readR s n = ([], 15) by unfold readR; rw [hdn]; rfl)
    rw [hdn] at c3
    clear h hs hdn c0
    go_enter Try.func50, Try.ntmps50
    go_wp2
    go_ret2
    rw [HR.out]
    exact ⟨_, rfl, OwnB.nil _, (fun g hg => by cases hg), Below.refl _ _⟩
  | false =>
    rw [hdn] at c3
    rcases atR_is s.l n with hat | ⟨k, f, hk, hget, hnm⟩
    · have HR := hid (show readR s n = ([], 8) by unfold readR; rw [hdn, if_neg (by simp), if_pos hat])
      generalize atR s.l n = i at *
      clear h hs hdn c0
      go_enter Try.func50, Try.ntmps50
      go_wp2_with fail
      refine HA.out.mono ?_
      rintro e w1 ⟨rfl, hE⟩
      have HE := hid hE
      clear hE
      go_wp2
      go_ret2
      rw [HR.out]
      exact ⟨_, rfl, OwnB.nil _, (fun g hg => by cases hg), HE.out.below⟩
    · have HR := hid (show readR s n = (f.S ++ f.T, 0) by
        unfold readR
        rw [hdn, if_neg (by simp), hk, if_neg (by omega), Int.toNat_natCast, hget])
      obtain ⟨aL, gL, oL, cL, hv, hcL, hr, _⟩ := h.own.rd encF_len
      rw [hv] at c0
      rw [hk] at HA
      have hkl : k < s.l.length := (List.getElem?_eq_some_iff.1 hget).1
      have hx := hr.index (P := Try.prog) Try.underlying79 sizeF hkl cL
      have hmem : f ∈ s.l := List.mem_of_getElem? hget
      have hok := h.ok f hmem
      have hfl := hs f hmem
      have hq := h.lt q (Or.inl rfl)
      have hkn : ¬ (k : Int) < 0 := by omega
      generalize s.l.length = n0 at *
      obtain ⟨bs, hbs⟩ : ∃ bs, bs = f.S ++ f.T := ⟨_, rfl⟩
      rw [← hbs] at HR
      have HBS := hid hbs
      have HX := hid (fun W (hW : Below w.heap.size w W) => RdF (hr.below hW) hget)
      have HC := hid (fun W (hW : Below w.heap.size w W) => show W.cell? ⟨q, 0, none⟩ = some (.slice aL n0 cL) by rw [hW.cell (p := ⟨q, 0, none⟩) hq]; exact c0)
      have HALL := hid (fun W (hW : Below w.heap.size w W) => RefAll_any W f (hok.below hW) hfl)
      clear h hs hdn hv hr hget hmem hok hbs hk hnm
      go_enter Try.func50, Try.ntmps50
      go_wp2_with fail
      refine HA.out.mono ?_
      rintro e w1 ⟨rfl, hE⟩
      have d0 := HC.out w1 hE.below
      obtain ⟨f0, f1, f2⟩ := HX.out w1 hE.below
      have HE := hid hE
      clear hE c0
      go_wp2_with fail
      refine (HALL.out _ HE.out.below).mono ?_
      rintro e w2 ⟨v, rfl, ho, hf, hb⟩
      have HO := hid ho
      have HF := hid hf
      have HB := hid (below_trans' HE.out.below hb)
      clear ho hf hb d0 f0 f1 f2
      go_wp2
      go_ret2
      rw [HR.out]
      exact ⟨v, rfl, by rw [HBS.out]; exact HO.out, fun g hg => Nat.le_trans HE.out.size (HF.out g hg), HB.out⟩
end Go.Proofs.Ytopabknlgmihpaa
