/- The document's disk: Remove. -/
import Derived.Test.YtopabknlgmihpaaRef12E
namespace Go.Proofs.Ytopabknlgmihpaa
open Go Go.RowKit Go.MapKept Go.ChangeMaps Go.Maps

theorem RkPost.same {w w' : World} {q : Nat} {s : RkS} {E : Nat → Prop} (h : Rk w' q s) (k : Keeps (· = q) w w') : RkPost w q s s.l E w' := ⟨s.v, h, fun _ hg => Or.inl hg, k⟩
theorem RkPost.after {w w1 w' : World} {q : Nat} {s : RkS} {l' : List RF} {E : Nat → Prop} (k : Keeps (· = q) w w1) (h : RkPost w1 q s l' E w') : RkPost w q s l' E w' := by
  obtain ⟨v', hr, hb, hk⟩ := h
  refine ⟨v', hr, fun g hg => ?_, k.trans hk (fun _ _ e => e)⟩
  rcases hb g hg with h1 | h1 | h1
  · exact Or.inl h1
  · exact Or.inr (Or.inl (Nat.le_trans k.size h1))
  · exact Or.inr (Or.inr h1)
theorem deed_l (s : RkS) : s.deed.l = s.l := by unfold RkS.deed; split <;> rfl
def removeR (s : RkS) (n : SKey) : List RF × Int := if s.dead then (s.l, 15) else if atR s.l n < 0 then (s.l, 8) else (dropR s.l n, 0)
set_option maxRecDepth 100000 in
set_option maxHeartbeats 3200000 in
theorem RefRemove12_any (w : World) (q : Nat) (s : RkS) (n : SKey) (h : Rk w q s) (hl : s.l.length ≤ 1000) (hb : -1 ≤ s.fuse) (hb2 : s.fuse ≤ 9223372036854775807) : Calls Try.prog 49 #[.pointer (some ⟨q, 0, none⟩), .string n.1] w fun e w' => e = .returned (.int .i64 (removeR s n).2) ∧ RkPost w q s.deed (removeR s n).1 (fun _ => False) w' := by
  have HC := hid (RefDeed_any w q s h hb hb2)
  have hdl := deed_l s
  obtain ⟨d, hd⟩ : ∃ d, d = s.deed := ⟨_, rfl⟩
  rw [← hd] at HC hdl ⊢
  clear h hb hb2 hd
  cases hdd : s.dead with
  | true =>
    have HR := hid (show removeR s n = (d.l, 15) by unfold removeR; rw [hdd, hdl]; rfl)
    rw [hdd] at HC
    clear hdd hdl
    go_enter Try.func49, Try.ntmps49
    go_wp2_with fail
    refine HC.out.mono ?_
    rintro e w1 ⟨rfl, hr, hk⟩
    have HP := hid (RkPost.same (E := fun _ => False) hr hk)
    clear hr hk
    go_wp2
    go_ret
    rw [HR.out]
    exact ⟨rfl, HP.out⟩
  | false =>
    rw [hdd] at HC
    have hA := fun W (hW : Rk W q d) => RefAt_any W q d n hW (by rw [hdl]; exact hl)
    have hD := fun W (hW : Rk W q d) => RefDrop12_any W q d n hW (by rw [hdl]; exact hl)
    rw [hdl] at hD hA
    have HA := hid hA
    have HD := hid hD
    clear hA hD
    by_cases hat : atR s.l n < 0
    · have HR := hid (show removeR s n = (d.l, 8) by unfold removeR; rw [hdd, if_neg (by simp), if_pos hat, hdl])
      clear hdd hdl
      generalize atR s.l n = i at *
      go_enter Try.func49, Try.ntmps49
      go_wp2_with fail
      refine HC.out.mono ?_
      rintro e w1 ⟨rfl, hr, hk⟩
      have HRk := hid hr
      have HK := hid hk
      clear hr hk
      go_wp2_with fail
      refine (HA.out _ HRk.out).mono ?_
      rintro e w2 ⟨rfl, hE2⟩
      have HP := hid (RkPost.same (E := fun _ => False) (HRk.out.ext hE2) (HK.out.trans (hE2.keeps (S := (· = q))) (fun _ _ e => e)))
      clear hE2
      go_wp2
      go_ret
      rw [HR.out]
      exact ⟨rfl, HP.out⟩
    · have HR := hid (show removeR s n = (dropR s.l n, 0) by unfold removeR; rw [hdd, if_neg (by simp), if_neg hat])
      clear hdd hdl
      generalize atR s.l n = i at *
      go_enter Try.func49, Try.ntmps49
      go_wp2_with fail
      refine HC.out.mono ?_
      rintro e w1 ⟨rfl, hr, hk⟩
      have HRk := hid hr
      have HK := hid hk
      clear hr hk
      go_wp2_with fail
      refine (HA.out _ HRk.out).mono ?_
      rintro e w2 ⟨rfl, hE2⟩
      have HRk2 := hid (HRk.out.ext hE2)
      have HK2 := hid (HK.out.trans (hE2.keeps (S := (· = q))) (fun _ _ e => e))
      clear hE2
      go_wp2_with fail
      refine (HD.out _ HRk2.out).mono ?_
      rintro e w3 ⟨rfl, hp⟩
      have HP := hid (RkPost.after HK2.out hp)
      clear hp
      go_wp2
      go_ret
      rw [HR.out]
      exact ⟨rfl, HP.out⟩
end Go.Proofs.Ytopabknlgmihpaa
