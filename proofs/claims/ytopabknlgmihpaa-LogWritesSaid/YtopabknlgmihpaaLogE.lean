/- The log's forms: the iterator's contract. -/
import Derived.Test.YtopabknlgmihpaaLogD
namespace Go.Proofs.Ytopabknlgmihpaa
open Go Go.RowKit Go.MapKept Go.ChangeMaps Go.Maps

theorem abides_below {β : Type} {B : Nat} {J : β → World → Prop} (hJ : AbidesFrom B J) {s : β} {A A' : World} (h : J s A) (hb : Below A.heap.size A A') : J s A' :=
  hJ s A A' none h ⟨hb.os, hb.tape, hb.output, hb.size, fun k hk _ => hb.block k hk⟩ (fun r e => by cases e)
theorem i64_s {x : Int} (h1 : -9223372036854775808 ≤ x) (h2 : x ≤ 9223372036854775807) : IntKind.i64.wrap x = x := by rw [IntKind.wrap_i64]; omega
/-- The blocks S are as they were. -/
def KpS (S : Nat → Prop) (A B : World) : Prop := A.heap.size ≤ B.heap.size ∧ ∀ i, S i → i < A.heap.size → B.heap[i]? = A.heap[i]?
theorem KpS.trans {S : Nat → Prop} {A B C : World} (h : KpS S A B) (k : KpS S B C) : KpS S A C :=
  ⟨Nat.le_trans h.1 k.1, fun i hi hl => (k.2 i hi (Nat.lt_of_lt_of_le hl h.1)).trans (h.2 i hi hl)⟩
theorem KpS.of_below {S : Nat → Prop} {A B : World} (h : Below A.heap.size A B) : KpS S A B := ⟨h.size, fun i _ hl => h.block i hl⟩
/-- What comes out of a file: a record, with its place, and where the next one begins. -/
def StepP (a : Option Addr) (g off : Nat) (b : List UInt8) (rs : List (List UInt8)) (z : BS × Nat) : Prop := (∃ k, rs[k]? = some z.1.bs ∧ z.2 = offB rs (k + 1)) ∧ ∀ W, RdS encB 1 W a g off b → OkBS W z.1
abbrev Step (a : Option Addr) (g off : Nat) (b : List UInt8) (rs : List (List UInt8)) : Type := { z : BS × Nat // StepP a g off b rs z }
/-- Where the records of a file lie. -/
structure StepB (a : Option Addr) (g off cap : Nat) (b : List UInt8) (rs : List (List UInt8)) (L : List (Step a g off b rs)) : Prop where
  len : L.length = rs.length
  at_ : ∀ (k : Nat) (z : Step a g off b rs), L[k]? = some z → rs[k]? = some z.1.1.bs ∧ z.1.2 = offB rs (k + 1) ∧ (∀ (c d : Int), c = (offB rs k + 5 : Nat) → d = (offB rs (k + 1) : Nat) → ∀ W, (Instr.slice 22 (.slice a b.length cap) (some (.int .i64 c)) (some (.int .i64 d)) none).run Try.prog W = .ok (.slice z.1.1.a z.1.1.bs.length z.1.1.c) W) ∧ ∀ W, RdS encB 1 W a g off b → OkBS W z.1.1
theorem stepB_of {w : World} {a : Option Addr} {g off cap : Nat} {b : List UInt8} {rs : List (List UInt8)} (h : RdS encB 1 w a g off b) (hF : FileB b rs) (hc : b.length ≤ cap) (hm : cap ≤ maxLen) : ∃ L, StepB a g off cap b rs L := by
  obtain ⟨L, hL, hQ⟩ := choose_list (fun k (y : Step a g off b rs) => rs[k]? = some y.1.1.bs ∧ y.1.2 = offB rs (k + 1) ∧ (∀ (c d : Int), c = (offB rs k + 5 : Nat) → d = (offB rs (k + 1) : Nat) → ∀ W, (Instr.slice 22 (.slice a b.length cap) (some (.int .i64 c)) (some (.int .i64 d)) none).run Try.prog W = .ok (.slice y.1.1.a y.1.1.bs.length y.1.1.c) W) ∧ ∀ W, RdS encB 1 W a g off b → OkBS W y.1.1) rs.length (fun k hk => by
    have h1 := offB_succ hk
    have h2 := hF.le hk
    obtain ⟨x, hx, hr, ho, _⟩ := rds_sub h (i := offB rs k + 5) (j := offB rs (k + 1)) (by omega) (by omega) hc hm
    have hxe : x.bs = rs[k] := by
      rw [hx, show offB rs (k + 1) - (offB rs k + 5) = rs[k].length by omega]
      exact (hF.parts hk).2.2
    have hget : rs[k]? = some x.bs := by rw [hxe]; simp [hk]
    refine ⟨⟨(x, offB rs (k + 1)), ⟨k, hget, rfl⟩, ho⟩, hget, rfl, fun c d hc2 hd W => ?_, ho⟩
    subst hc2 hd
    exact hr W)
  exact ⟨L, hL, fun k z he => hQ k z he⟩
def encsB {a : Option Addr} {g off : Nat} {b : List UInt8} {rs : List (List UInt8)} (x : Step a g off b rs) : Array Value := #[.slice x.1.1.a x.1.1.bs.length x.1.1.c, .int .i64 x.1.2]
set_option maxRecDepth 100000 in
set_option maxHeartbeats 3200000 in
theorem forms_stops (w0 : World) (S : Nat → Prop) (m bx : Nat) (a : Option Addr) (g off cap : Nat) (b : List UInt8) (rs : List (List UInt8)) (L : List (Step a g off b rs)) (hbx : S bx) (hbx2 : bx < w0.heap.size) (hcell : w0.cell? ⟨bx, 0, none⟩ = some (.slice a b.length cap)) (hr : RdS encB 1 w0 a g off b) (hg : b ≠ [] → S g) (hF : FileB b rs) (hc : b.length ≤ cap) (hm : cap ≤ maxLen) (hS : StepB a g off cap b rs L) :
    SeqStopsK Fence.wide m Try.prog 89 #[.pointer (some ⟨bx, 0, none⟩)] encsB (KpS S) (fun xs => xs = L) (fun _ => True) L.length w0 := fun l J Jx W hW hJ hJx hY h0 => by
  refine callsIn_of_wp Try.func89 rfl trivial ?_ rfl
  simp only [Try.ntmps89, List.size_toArray, List.length_cons, List.length_nil, Nat.reduceAdd, Nat.reduceSub, Array.replicate_succ, Array.replicate_zero, List.push_toArray, List.append_toArray, List.nil_append, List.cons_append]
  have hW0 : KpS S w0 W := KpS.of_below hW
  have HC := hid (fun W (hW : KpS S w0 W) => show W.cell? ⟨bx, 0, none⟩ = some (.slice a b.length cap) from (World.cell?_of_block (w := w0) (a := ⟨bx, 0, none⟩) (hW.2 bx hbx hbx2)).trans hcell)
  have HR := hid (fun W (hW : KpS S w0 W) => show RdS encB 1 W a g off b from hr.same hW.1 (fun hne => hW.2 g (hg hne) (hr.lt hne)))
  have HY := hid hY
  have HS := hid hS
  have HF := hid hF
  have hbl := hF.len
  clear hcell hr hS hF hg
  gi_wp2
  gi_loopw [3] (fun s3 wr => ∃ k : Nat, k ≤ rs.length ∧ s3 = .int .i64 (offB rs k : Nat) ∧ KpS S w0 wr ∧ J (L.take k) wr) (fun s3 _ => b.length + 1 - (intOf s3).toNat)
  case atStart => exact ⟨0, Nat.zero_le _, rfl, hW0, h0⟩
  case round =>
    obtain ⟨k, hk, rfl, hB, hJs⟩ := hrel
    have hole := HF.out.off_le k
    have c0 := HC.out wr hB
    obtain ⟨x0, hx0, hrun0, hok0, _⟩ := rds_front (HR.out wr hB) (i := offB rs k) hole hc hm
    by_cases hlt : k < rs.length
    · obtain ⟨hp1, hp2, hp3⟩ := HF.out.parts hlt
      have hnx := offB_succ hlt
      have hle := HF.out.le hlt
      have hps := HF.out.small _ (List.getElem_mem hlt)
      obtain ⟨rest, hdr⟩ := HF.out.drop hlt
      obtain ⟨r0, hr0⟩ : ∃ r0, x0.bs = UInt8.ofNat rs[k].length :: r0 := ⟨_, by rw [hx0, hdr]; rfl⟩
      have hok := hok0 wr (HR.out wr hB)
      have hv : (UInt8.ofNat rs[k].length).toNat = rs[k].length := by rw [UInt8.toNat_ofNat']; omega
      have htk := TakeSmall_any wr x0.a x0.g x0.o x0.c (UInt8.ofNat rs[k].length) r0 (by rw [← hr0]; exact hok.r) (by rw [hv]; omega)
      rw [← hr0, hv] at htk
      have HTK := hid htk
      have HGET := hid (show rs[k]? = some rs[k] by simp [hlt])
      have HNX := hid hnx
      have HP1 := hid hp1
      have HP2 := hid hp2
      have hx0l : x0.bs.length = b.length - offB rs k := by rw [hx0, List.length_drop]
      have HX0 := hid hx0
      have HOLE := hid hole
      generalize rs[k] = p at *
      clear htk hok hx0 hdr hr0 hp1 hp2 hp3 hnx hok0
      have HX0L := hid hx0l
      clear hx0l
      gi_wp2
      refine ⟨trivial, (fun h => by cases h), (callsIn_wide.2 HTK.out).mono ?_⟩
      rintro e wr ⟨rfl, rfl⟩
      clear hrun0
      have hi64 : IntKind.i64.wrap (p.length : Int) = (p.length : Int) := i64_s (by omega) (by omega)
      obtain ⟨⟨⟨x, ex⟩, hzz⟩, hLk⟩ : ∃ z, L[k]? = some z := ⟨L[k]'(by rw [HS.out.len]; exact hlt), by simp [HS.out.len, hlt]⟩
      obtain ⟨hs1, hs2, hs3, hs4⟩ := HS.out.at_ k _ hLk
      simp only at hs1 hs2 hs3 hs4
      have hxp : p = x.bs := by have := HGET.out.symm.trans hs1; simpa using this
      have HXP := hid hxp
      have HEX := hid hs2
      have HXO := hid hs4
      have hrun1 := hs3 ((offB rs k : Int) + 1 + 4) ((offB rs k : Int) + 1 + 4 + (p.length : Int)) (by omega) (by rw [HNX.out]; omega)
      have HLK := hid hLk
      clear hs1 hs2 hs3 hs4 hxp hLk
      gi_wp2
      have hw1 : IntKind.i64.wrap ((offB rs k : Int) + 1) = (offB rs k : Int) + 1 := i64_s (by omega) (by omega)
      have hsb : ∀ (i j : Nat) (c d : Int), i ≤ j → j ≤ b.length → c = i → d = j → ∃ z : BS, z.bs = (b.drop i).take (j - i) ∧ (∀ W, (Instr.slice 22 (.slice a b.length cap) (some (.int .i64 c)) (some (.int .i64 d)) none).run Try.prog W = .ok (.slice z.a z.bs.length z.c) W) ∧ ∀ W, RdS encB 1 W a g off b → OkBS W z := fun i j c d h1 h2 h3 h4 => by
        subst h3 h4
        obtain ⟨z, e1, e2, e3, _⟩ := rds_sub (HR.out wr hB) (i := i) (j := j) h1 h2 hc hm
        exact ⟨z, e1, e2, e3⟩
      obtain ⟨z1, hz1, hq1, ho1⟩ := hsb (offB rs k + 1) (offB rs k + 5) ((offB rs k : Int) + 1) ((offB rs k : Int) + 1 + 4) (by omega) (by omega) (by omega) (by omega)
      obtain ⟨z2, hz2, hq2, ho2⟩ := hsb (offB rs k) (offB rs k + 1) (offB rs k : Int) ((offB rs k : Int) + 1) (by omega) (by omega) (by omega) (by omega)
      rw [show offB rs k + 5 - (offB rs k + 1) = 4 by omega, HP2.out] at hz1
      rw [show offB rs k + 1 - offB rs k = 1 by omega, HP1.out] at hz2
      have HB0 := hid hB
      have HCW := hid (fun W (hW : Below wr.heap.size wr W) => HC.out W (HB0.out.trans (KpS.of_below hW)))
      have HRW := hid (fun W (hW : Below wr.heap.size wr W) => HR.out W (HB0.out.trans (KpS.of_below hW)))
      have HZ1 := hid hz1
      have HZ2 := hid hz2
      have HO1 := hid ho1
      have HO2 := hid ho2
      have HJ := hid hJs
      clear hsb hz1 hz2 ho1 ho2 hB c0 hJs
      refine wp_region_I (fun W => Below wr.heap.size wr W) 17 (by kernel_rfl) ?_
      have hC0 : (fun W => Below wr.heap.size wr W) wr.drew := ((Ext.refl wr).drew).below
      have hC1 : (fun W => Below wr.heap.size wr W) (wr.drew.alloc (.cells ([z2, x].flatMap encBS).toArray 22)) := hC0.trans (((Ext.refl wr.drew).alloc _).below.mono (by simp))
      refine takeI (i := 0) (v := ?_) rfl (by kernel_rfl) (by kernel_rfl) (by kernel_rfl) (by kernel_rfl) (by kernel_rfl) (fun _ _ _ h => h) (by assumption) ⟨Or.inl ⟨?_, ?_⟩, fun _ => rfl⟩ (fun K hK => ?_)
      rotate_left
      · rfl
      · (intro W hW; (have c0 := HCW.out W hW); go_simp; first | done | with_reducible rfl)
      (try go_simp)
      refine hK _ _ ?_
      clear hK K
      refine takeI (i := 1) (v := ?_) rfl (by kernel_rfl) (by kernel_rfl) (by kernel_rfl) (by kernel_rfl) (by kernel_rfl) (fun _ _ _ h => h) (by assumption) ⟨Or.inl ⟨?_, ?_⟩, fun _ => rfl⟩ (fun K hK => ?_)
      rotate_left
      · rfl
      · (intro W hW; (have c0 := HCW.out W hW); go_simp; first | done | with_reducible rfl)
      (try go_simp)
      refine hK _ _ ?_
      clear hK K
      refine takeI (i := 2) (v := ?_) rfl (by kernel_rfl) (by kernel_rfl) (by kernel_rfl) (by kernel_rfl) (by kernel_rfl) (fun _ _ _ h => h) (by assumption) ⟨Or.inl ⟨?_, ?_⟩, fun _ => rfl⟩ (fun K hK => ?_)
      rotate_left
      · rfl
      · (intro W hW; (have c0 := HCW.out W hW); go_simp; first | done | with_reducible rfl)
      (try go_simp)
      refine hK _ _ ?_
      clear hK K
      refine takeI (i := 3) (v := ?_) rfl (by kernel_rfl) (by kernel_rfl) (by kernel_rfl) (by kernel_rfl) (by kernel_rfl) (fun _ _ _ h => h) (by assumption) ⟨Or.inl ⟨?_, ?_⟩, fun _ => rfl⟩ (fun K hK => ?_)
      rotate_left
      · rfl
      · (intro W hW; (have c0 := HCW.out W hW); go_simp; first | done | with_reducible rfl)
      (try go_simp)
      refine hK _ _ ?_
      clear hK K
      refine takeI (i := 4) (v := ?_) rfl (by kernel_rfl) (by kernel_rfl) (by kernel_rfl) (by kernel_rfl) (by kernel_rfl) (fun _ _ _ h => h) (by assumption) ⟨Or.inl ⟨?_, ?_⟩, fun _ => rfl⟩ (fun K hK => ?_)
      rotate_left
      · rfl
      · (intro W hW; (have c0 := HCW.out W hW); go_simp; first | done | with_reducible rfl)
      (try go_simp)
      refine hK _ _ ?_
      clear hK K
      refine takeI (i := 5) (v := ?_) rfl (by kernel_rfl) (by kernel_rfl) (by kernel_rfl) (by kernel_rfl) (by kernel_rfl) (fun _ _ _ h => h) (by assumption) ⟨Or.inl ⟨?_, ?_⟩, fun _ => rfl⟩ (fun K hK => ?_)
      rotate_left
      · rfl
      · (intro W hW; (have c0 := HCW.out W hW); go_simp; first | done | with_reducible rfl)
      (try go_simp)
      refine hK _ _ ?_
      clear hK K
      refine takeI (i := 6) (v := ?_) rfl (by kernel_rfl) (by kernel_rfl) (by kernel_rfl) (by kernel_rfl) (by kernel_rfl) (fun _ _ _ h => h) (by assumption) ⟨Or.inl ⟨?_, ?_⟩, fun _ => rfl⟩ (fun K hK => ?_)
      rotate_left
      · rfl
      · (intro W hW; (have c0 := HCW.out W hW); go_simp; first | done | with_reducible rfl)
      (try go_simp)
      refine hK _ _ ?_
      clear hK K
      refine takeI (i := 7) (v := ?_) rfl (by kernel_rfl) (by kernel_rfl) (by kernel_rfl) (by kernel_rfl) (by kernel_rfl) (fun _ _ _ h => h) (by assumption) ⟨Or.inl ⟨?_, ?_⟩, fun _ => rfl⟩ (fun K hK => ?_)
      rotate_left
      · rfl
      · (intro W hW; (have c0 := HCW.out W hW); go_simp; first | done | with_reducible rfl)
      (try go_simp)
      refine hK _ _ ?_
      clear hK K
      refine takeI (i := 8) (v := ?_) rfl (by kernel_rfl) (by kernel_rfl) (by kernel_rfl) (by kernel_rfl) (by kernel_rfl) (fun _ _ _ h => h) (by assumption) ⟨Or.inl ⟨?_, ?_⟩, fun _ => rfl⟩ (fun K hK => ?_)
      rotate_left
      · rfl
      · (intro W hW; (have c0 := HCW.out W hW); go_simp; first | done | with_reducible rfl)
      (try go_simp)
      refine hK _ _ ?_
      clear hK K
      refine takeI (i := 9) (v := ?_) rfl (by kernel_rfl) (by kernel_rfl) (by kernel_rfl) (by kernel_rfl) (by kernel_rfl) (fun _ _ _ h => h) (by assumption) ⟨Or.inl ⟨?_, ?_⟩, fun _ => rfl⟩ (fun K hK => ?_)
      rotate_left
      · rfl
      · (intro W hW; (have c0 := HCW.out W hW); go_simp; first | done | with_reducible rfl)
      (try go_simp)
      refine hK _ _ ?_
      clear hK K
      refine takeI (i := 10) (v := ?_) rfl (by kernel_rfl) (by kernel_rfl) (by kernel_rfl) (by kernel_rfl) (by kernel_rfl) (fun _ _ _ h => h) (by assumption) ⟨Or.inl ⟨?_, ?_⟩, fun _ => rfl⟩ (fun K hK => ?_)
      rotate_left
      · rfl
      · (intro W hW; (have c0 := HCW.out W hW); go_simp; first | done | with_reducible rfl)
      (try go_simp)
      refine hK _ _ ?_
      clear hK K
      refine takeI (i := 11) (v := ?_) rfl (by kernel_rfl) (by kernel_rfl) (by kernel_rfl) (by kernel_rfl) (by kernel_rfl) (fun _ _ _ h => h) (by assumption) ⟨Or.inl ⟨?_, ?_⟩, fun _ => rfl⟩ (fun K hK => ?_)
      rotate_left
      · rfl
      · (intro W hW; (have c0 := HCW.out W hW); go_simp; first | done | with_reducible rfl)
      (try go_simp)
      refine hK _ _ ?_
      clear hK K
      refine takeI (i := 12) (v := ?_) rfl (by kernel_rfl) (by kernel_rfl) (by kernel_rfl) (by kernel_rfl) (by kernel_rfl) (fun _ _ _ h => h) (by assumption) ⟨Or.inl ⟨?_, ?_⟩, fun _ => rfl⟩ (fun K hK => ?_)
      rotate_left
      · rfl
      · (intro W hW; (have c0 := HCW.out W hW); go_simp; first | done | with_reducible rfl)
      (try go_simp)
      refine hK _ _ ?_
      clear hK K
      refine callI (k := 13) (by kernel_rfl) rfl ?_ (fun K hK => ?_)
      · rfl
      go_simp
      refine hK _ _ (by assumption) ?_
      clear hK K
      refine callI (k := 14) (by kernel_rfl) rfl ?_ (fun K hK => ?_)
      · rfl
      go_simp
      have hl2 : [z2, x].flatMap (fun x => x.bs) = [UInt8.ofNat p.length] ++ p := by simp [HZ2.out, HXP.out]
      have hR1 := HRW.out _ hC1
      have HSUM := hid (CrcSum_any (wr.drew.alloc (.cells ([z2, x].flatMap encBS).toArray 22)) (some ⟨wr.drew.heap.size, 0, none⟩) wr.drew.heap.size 0 2 [z2, x] (RdBS.new wr.drew [z2, x]) (fun z hz => by
        rcases List.mem_cons.1 hz with rfl | hz
        · exact HO2.out _ hR1
        · rw [List.mem_singleton] at hz; subst hz; exact HXO.out _ hR1) (by simp) (fun z hz => by
        rcases List.mem_cons.1 hz with rfl | hz
        · rw [HZ2.out]; simp
        · rw [List.mem_singleton] at hz; subst hz; rw [← HXP.out]; omega))
      rw [hl2] at HSUM
      clear hl2 hR1
      refine ⟨trivial, (fun h => by cases h), (callsIn_wide.2 HSUM.out).mono ?_⟩
      rintro e w2 ⟨rfl, hE2⟩
      have hC2 : (fun W => Below wr.heap.size wr W) w2 := Below.trans hC1 (hE2.below.mono (Below.size hC1))
      clear hE2
      refine hK _ _ hC2 ?_
      clear hK K
      refine callI (k := 15) (by kernel_rfl) rfl ?_ (fun K hK => ?_)
      · rfl
      have hcr := crcI_range ([UInt8.ofNat p.length] ++ p)
      obtain ⟨s, hs⟩ : ∃ s, s = crcI ([UInt8.ofNat p.length] ++ p) := ⟨_, rfl⟩
      rw [← hs] at hcr ⊢
      have HSS := hid hs
      obtain ⟨hcr0, hcr1⟩ := hcr
      clear hs
      go_simp
      refine ⟨trivial, (fun h => by cases h), (callsIn_wide.2 (four_any w2 s hcr0 hcr1)).mono ?_⟩
      rintro e w3 ⟨v3, rfl, ho3, hf3, hE3⟩
      have hC3 : (fun W => Below wr.heap.size wr W) w3 := Below.trans hC2 (hE3.below.mono (Below.size hC2))
      obtain ⟨y3, rfl, hy3, hok3, _⟩ := ho3.bs
      have hz4 : z1.bs = y3.bs := by rw [HZ1.out, hy3, HSS.out]
      have HEQ := hid (EqualB_any w3 z1.a z1.g z1.o z1.c z1.bs y3.a y3.g y3.o y3.c y3.bs (HO1.out _ (HRW.out _ hC3)).r hok3.r (by rw [HZ1.out]; simp [fourB]) (by rw [hy3]; simp [fourB]))
      rw [decide_eq_true hz4] at HEQ
      clear hE3 ho3 hf3 hy3 hok3 hz4
      refine hK _ _ hC3 ?_
      clear hK K
      refine callI (k := 16) (by kernel_rfl) rfl ?_ (fun K hK => ?_)
      · rfl
      go_simp
      refine ⟨trivial, (fun h => by cases h), (callsIn_wide.2 HEQ.out).mono ?_⟩
      rintro e w4 ⟨rfl, hE4⟩
      have hC4 : (fun W => Below wr.heap.size wr W) w4 := Below.trans hC3 (hE4.below.mono (Below.size hC3))
      clear hE4
      refine hK _ _ hC4 ?_
      clear hK K
      refine lastI (by kernel_rfl) rfl ?_ (fun K hK => ?_)
      · rfl
      go_simp
      refine hK _ _ ?_
      clear hK K
      refine doneI (by kernel_rfl) ?_
      have hJ4 := abides_below (s := L.take k) hJ HJ.out hC4
      have hB4 : KpS S w0 w4 := HB0.out.trans (KpS.of_below hC4)
      have hkL : (L.take k).length < L.length := by rw [List.length_take, HS.out.len]; omega
      have HTK1 := hid (show L.take (k + 1) = L.take k ++ [⟨(x, ex), hzz⟩] by
        rw [List.take_add_one, HLK.out]; rfl)
      have hex : (ex : Int) = (offB rs k : Int) + 1 + 4 + (p.length : Int) := by have := HEX.out; rw [HNX.out] at this; omega
      obtain ⟨fn, tmps, assign, body, hy, hR⟩ := HY.out (L.take k) ⟨(x, ex), hzz⟩ w4 hJ4 hkL
      dsimp only [encsB] at hy
      rw [hex] at hy
      have HB4 := hid hB4
      have HR5 := hid hR
      have HEX2 := hid (show ((offB rs (k + 1) : Nat) : Int) = (offB rs k : Int) + 1 + 4 + (p.length : Int) by rw [HNX.out]; omega)
      clear hC0 hC1 hC2 hC3 hC4 hJ4 hB4 hkL hex hR
      gi_wp2
      refine ⟨(fun h => by cases h), HR5.out.mono ?_⟩
      rintro e w5 (⟨rfl, hJ5, hk5⟩ | ⟨rfl, hJx5⟩)
      · have HJ5 := hid hJ5
        have HK5 := hid (HB4.out.trans hk5)
        clear hJ5 hk5 hy
        gi_wp2
        go_roundw
        case rel => exact ⟨k + 1, by omega, by rw [HEX2.out], HK5.out, by rw [HTK1.out]; exact HJ5.out⟩
        case measure => simp [intOf]; omega
      · clear hy
        gi_wp2
        refine bodyPost_ret (results_none rfl _ _ _) rfl ?_
        exact ⟨⟨_, rfl⟩, .inr ⟨_, trivial, hJx5⟩⟩
    · have hke : k = rs.length := by omega
      subst hke
      have hLt : L.take rs.length = L := by rw [← HS.out.len, List.take_length]
      rw [hLt] at hJs
      have HJ := hid hJs
      have hst := HF.out.stuck
      rw [← hx0] at hst
      have hok := hok0 wr (HR.out wr hB)
      have hx0l : x0.bs.length = b.length - offB rs rs.length := by rw [hx0, List.length_drop]
      clear hx0 hok0 hJs hLt
      rcases hst with hst | ⟨c, r, hst, hc1, hc2⟩
      · have h0 : x0.bs.length = 0 := by rw [hst]; rfl
        have htk := TakeNil_any wr x0.a x0.c
        rw [← h0] at htk
        have HTK := hid htk
        clear htk hst h0 hx0l hok
        gi_wp2
        refine ⟨trivial, (fun h => by cases h), (callsIn_wide.2 HTK.out).mono ?_⟩
        rintro e wr ⟨rfl, rfl⟩
        gi_wp2
        refine bodyPost_ret (results_none rfl _ _ _) rfl ?_
        exact ⟨⟨_, rfl⟩, .inl ⟨L, rfl, HJ.out⟩⟩
      · have htk := TakeSmall_any wr x0.a x0.g x0.o x0.c c r (by rw [← hst]; exact hok.r) (by omega)
        rw [← hst] at htk
        have HTK := hid htk
        have hlen : x0.bs.length < 5 + c.toNat := by rw [hst, List.length_cons]; omega
        have hlen2 : (b.length : Int) - (offB rs rs.length : Int) < 1 + 4 + (c.toNat : Int) := by omega
        have hi64 : IntKind.i64.wrap (c.toNat : Int) = (c.toNat : Int) := i64_s (by omega) (by omega)
        have hcb : ¬ (1048576 : Int) < (c.toNat : Int) := by omega
        clear htk hst hx0l hok hlen
        gi_wp2
        refine ⟨trivial, (fun h => by cases h), (callsIn_wide.2 HTK.out).mono ?_⟩
        rintro e wr ⟨rfl, rfl⟩
        clear hrun0
        gi_wp2
        refine bodyPost_ret (results_none rfl _ _ _) rfl ?_
        exact ⟨⟨_, rfl⟩, .inl ⟨L, rfl, HJ.out⟩⟩
end Go.Proofs.Ytopabknlgmihpaa
