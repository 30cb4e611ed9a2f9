/- DiskRoom: there are never more bytes than room, nor more files than may be. The walk. -/
import Derived.Test.YtopabknlgmihpaaDiskAct
namespace Go.Proofs.Ytopabknlgmihpaa
open Go Go.RowKit Go.MapKept Go.ChangeMaps Go.Maps

theorem deed_room {d : AD} {f : AD → AD × Int} (h : ∀ e : AD, (f e).1.room = e.room) : (deedA f d).1.room = d.room := by
  unfold deedA
  split
  · rfl
  · rw [h]
theorem append_room (n : SKey) (b : List UInt8) (e : AD) : (appendA n b e).1.room = e.room := by
  unfold appendA
  split
  · rfl
  split
  · rfl
  split
  · split <;> rfl
  · rfl
theorem sync_room (n : SKey) (e : AD) : (syncA n e).1.room = e.room := by
  unfold syncA
  split <;> rfl
theorem cut_room (n : SKey) (k : Int) (e : AD) : (cutA n k e).1.room = e.room := by
  unfold cutA
  split
  · rfl
  · split <;> rfl
theorem move_room (n m : SKey) (e : AD) : (moveA n m e).1.room = e.room := by
  unfold moveA
  split
  · rfl
  · split <;> rfl
theorem remove_room (n : SKey) (e : AD) : (removeA n e).1.room = e.room := by
  unfold removeA
  split <;> rfl
theorem act_room (x : DAct) (d : AD) : (actA x d).1.room = d.room := by
  unfold actA
  split
  · exact deed_room (append_room _ _)
  split
  · exact deed_room (sync_room _)
  split
  · exact deed_room (move_room _ _)
  split
  · exact deed_room (remove_room _)
  split
  · rfl
  split
  · rfl
  split
  · rfl
  split
  · exact deed_room (cut_room _ _)
  · rfl
/-- The first k bytes are one more. -/
def incK : Nat → List UInt8 → List UInt8
  | 0, l => l
  | _, [] => []
  | k + 1, x :: r => (x + 1) :: incK k r
theorem incK_zero (l : List UInt8) : incK 0 l = l := by cases l <;> rfl
theorem incK_len : ∀ (k : Nat) (l : List UInt8), (incK k l).length = l.length
  | 0, l => by rw [incK_zero]
  | _ + 1, [] => rfl
  | k + 1, x :: r => by simp [incK, incK_len k r]
theorem incK_get : ∀ (k : Nat) (l : List UInt8), (incK k l)[k]? = l[k]?
  | 0, l => by rw [incK_zero]
  | _ + 1, [] => rfl
  | k + 1, x :: r => by simp [incK, incK_get k r]
theorem incK_set : ∀ (k : Nat) (l : List UInt8) (x : UInt8), l[k]? = some x → (incK k l).set k (x + 1) = incK (k + 1) l
  | 0, [], _, h => by cases h
  | 0, y :: r, x, h => by
    simp at h
    subst h
    simp [incK, incK_zero]
  | _ + 1, [], _, h => by cases h
  | k + 1, y :: r, x, h => by
    simp at h
    simp only [incK, List.set_cons_succ]
    rw [incK_set k r x h]
theorem incK_ne (k : Nat) (l : List UInt8) (hk : 0 < k) (hl : l ≠ []) : incK k l ≠ l := by
  cases k with
  | zero => omega
  | succ k =>
    cases l with
    | nil => exact absurd rfl hl
    | cons x r =>
      intro h
      simp only [incK, List.cons.injEq] at h
      have h1 := congrArg UInt8.toNat h.1
      rw [UInt8.toNat_add] at h1
      have h2 := x.toNat_lt
      simp at h1
      omega
theorem wrap_u8 (x : UInt8) : IntKind.u8.wrap ((x.toNat : Int) + 1) = ((x + 1).toNat : Int) := by
  rw [UInt8.toNat_add]
  simp [IntKind.wrap, IntKind.bits, IntKind.signed]
theorem setCell_below {B : Nat} {w w' : World} (h : Below B w w') (hB : B ≤ w'.heap.size) {g o : Nat} (hg : B ≤ g) (v : Value) : Below B w (w'.setCell ⟨g, o, none⟩ v) :=
  h.trans (((Keeps.refl (· = g) w').setCell (p := ⟨g, o, none⟩) (fun _ => rfl) v).below hB (fun k hk => by subst hk; exact hg))
/-- A byte of a slice is written. -/
theorem OwnB.poke {w : World} {a : Option Addr} {len cap : Nat} {l : List UInt8} (h : OwnB w (.slice a len cap) l) {k : Nat} {x : UInt8} (hk : l[k]? = some x) : ∃ g, a = some ⟨g, 0, none⟩ ∧ w.cell? ⟨g, k, none⟩ = some (.int .u8 x.toNat) ∧ w.frozen? ⟨g, k, none⟩ = false ∧ (∀ W, (Instr.indexAt 22 (.slice (some ⟨g, 0, none⟩) len cap) (.int .i64 k)).run Try.prog W = .ok (.pointer (some ⟨g, k, none⟩)) W) ∧ ∀ y : UInt8, OwnB (w.setCell ⟨g, k, none⟩ (.int .u8 y.toNat)) (.slice a len cap) (l.set k y) := by
  have hkl : k < l.length := (List.getElem?_eq_some_iff.1 hk).1
  have hrd := h.rd
  rcases h with ⟨e, h0⟩ | ⟨g, cap', cur, e, hg, h1, h2, h3, h4⟩
  · subst h0; cases hk
  · cases e
    obtain ⟨a', g', o', c', e', hc', hr', _⟩ := hrd
    cases e'
    have e1 := hr'.some (fun e => by subst e; cases hk)
    cases e1
    refine ⟨g, rfl, ?_, ?_, fun W => ?_, fun y => Or.inr ⟨g, cap, cur.setIfInBounds k (vB y), ?_, ?_, ?_, h2, ?_, ?_⟩⟩
    · have := RdB hr' hk
      simpa [vB] using this
    · simp [World.frozen?, hg]
    · have := indexB hr' hkl cap W
      simpa using this
    · rw [List.length_set]
    · simp [World.setCell, Array.getElem?_modify, hg, vB]
    · rw [List.length_set]; exact h1
    · simpa using h3
    · rw [List.length_set, List.map_set, ← h4, Array.toList_setIfInBounds, List.take_set]
/-- Names and files. -/
theorem read_name {d : AD} (h : d.Good) (hd : d.down = false) {j : Nat} (hj : j < (namesOf d.l).length) : ∃ (n : SKey) (bs : List UInt8), keyL n = (namesOf d.l)[j] ∧ readA n d = (bs, 0) ∧ bs.length ≤ 1073741824 := by
  obtain ⟨x, hx, e⟩ := names_mem hj
  have hg := aget_some h.keys (p := x) hx
  have hlen := (h.len_get hg).2
  have hr := h.room.2
  refine ⟨x.1, x.2.1, e, ?_, by omega⟩
  unfold readA
  rw [hd, hg]
  rfl
theorem names_len (l : FL) : (namesOf l).length = l.length := by
  unfold namesOf
  rw [List.length_mergeSort, List.length_map]
def namesD (d : AD) : List (List UInt8) := if d.down then [] else namesOf d.l
theorem namesD_len {d : AD} (h : d.Good) : (namesD d).length ≤ 16 := by
  unfold namesD
  split
  · simp
  · rw [names_len]; exact h.len
def usedD (d : AD) : Nat := if d.down then 0 else totL d.l
theorem usedD_le {d : AD} (h : d.Good) : (usedD d : Int) ≤ d.room := by
  unfold usedD
  split
  · exact h.room.1
  · exact h.tot
theorem names_any (w : World) (p : Nat) (s : DkS) (h : Dk w p s) (hG : s.abs.Good) : Calls Try.prog 24 #[.pointer (some ⟨p, 0, none⟩)] w fun e w' => ∃ v, e = .returned v ∧ Owns w.heap.size 9 encN 1 w' v (namesD s.abs) ∧ Below w.heap.size w w' :=
  DiskNames_any w p s h (by have := hG.len; rw [len_abs] at this; omega)
theorem used_any (w : World) (p : Nat) (s : DkS) (h : Dk w p s) (hG : s.abs.Good) : Calls Try.prog 20 #[.pointer (some ⟨p, 0, none⟩)] w fun e w' => e = .returned (.int .i64 (usedD s.abs : Nat)) ∧ Ext w w' :=
  DiskUsed_any w p s h (by have := hG.tot; have := hG.room.2; omega)
set_option maxRecDepth 100000 in
set_option maxHeartbeats 8000000 in
theorem DR_great (w : World) (room : Int) (hr0 : 0 ≤ room) (hr1 : room ≤ 255) (a : Option Addr) (g off cap : Nat) (l : List DAct) (h : RdS encD 6 w a g off l) (hO : ∀ x ∈ l, OkD w x) (hl : l.length ≤ cap) (hcm : cap ≤ maxLen) (hg : greatD l = true) :
    Calls Try.prog 6 #[.int .u8 room, .slice a l.length cap] w fun e w' => e = .returned (.bool true) ∧ Below w.heap.size w w' := by
  have hG := greatD_any _ a g off cap l h hl hcm
  rw [hg] at hG
  have HG := hid hG
  clear hG hg h hO
  go_enter Try.func6, Try.ntmps6
  go_wp2_with fail
  refine HG.out.mono ?_
  rintro e w1 ⟨rfl, hE1⟩
  have HBB := hid hE1.below
  clear hE1
  go_wp2_with fail
  refine (DiskAwake _).mono ?_
  rintro e w9 ⟨rfl, hb9⟩
  have HF := hid (below_trans' HBB.out hb9)
  clear hb9
  go_wp2
  go_ret
  exact ⟨rfl, HF.out⟩
set_option maxRecDepth 100000 in
set_option maxHeartbeats 8000000 in
theorem DR_small (w : World) (room : Int) (hr0 : 0 ≤ room) (hr1 : room ≤ 255) (a : Option Addr) (g off cap : Nat) (l : List DAct) (h : RdS encD 6 w a g off l) (hO : ∀ x ∈ l, OkD w x) (hl : l.length ≤ cap) (hcm : cap ≤ maxLen) (hg : greatD l = false) :
    Calls Try.prog 6 #[.int .u8 room, .slice a l.length cap] w fun e w' => e = .returned (.bool true) ∧ Below w.heap.size w w' := by
  have hl60 : l.length ≤ 60 := by
    unfold greatD at hg
    rw [Bool.or_eq_false_iff] at hg
    have := hg.2
    simpa using this
  have hsm : ∀ x ∈ l, x.P.length ≤ 100 := by
    unfold greatD at hg
    rw [Bool.or_eq_false_iff, List.take_of_length_le hl60, List.any_eq_false] at hg
    intro x hx
    have := hg.1 x hx
    unfold greatA at this
    simp at this
    exact this.1
  have hG := greatD_any _ a g off cap l h hl hcm
  rw [hg] at hG
  have HG := hid hG
  clear hG hg
  go_enter Try.func6, Try.ntmps6
  go_wp2_with fail
  refine HG.out.mono ?_
  rintro e w1 ⟨rfl, hE1⟩
  have hb1 := hE1.below
  clear hE1
  go_wp2_with fail
  refine (DiskNew_any _ room).mono ?_
  rintro e w2 ⟨p, s0, rfl, hD0, ha0, hB0, hE2⟩
  have hmx : max room 0 = room := by omega
  rw [hmx] at ha0
  have hG0 : s0.abs.Good := by rw [ha0]; exact goodNew room hr0 (by omega)
  have hR0 : s0.abs.room = room := by rw [ha0]
  have hb2 : Below w.heap.size w w2 := hb1.trans (hE2.below.mono hb1.size)
  have hBk0 : ∀ g, s0.Blk p g → w.heap.size ≤ g := fun g hg => Nat.le_trans hb1.size (hB0 g hg)
  clear ha0 hB0 hE2 hb1 hmx
  go_wp2_with fail
  go_loopw [6] (fun s6 wr => ∃ (k : Nat) (s : DkS), k ≤ l.length ∧ s6 = .int .i64 k ∧ Dk wr p s ∧ s.abs.Good ∧ s.abs.room = room ∧ (∀ g, s.Blk p g → w.heap.size ≤ g) ∧ Below w.heap.size w wr) (fun s6 _ => l.length - (intOf s6).toNat)
  case atStart => exact ⟨0, s0, Nat.zero_le _, rfl, hD0, hG0, hR0, hBk0, hb2⟩
  case round =>
    clear hD0 hG0 hR0 hBk0 hb2 s0
    obtain ⟨k, s, hk, rfl, hD, hG, hR, hB, hb⟩ := hrel
    by_cases hlt : k < l.length
    · have hx := h.index (P := Try.prog) Try.underlying41 sizeD hlt cap
      have hget : l[k]? = some l[k] := by simp [hlt]
      obtain ⟨c0, c1, c2, c3, c4, c5⟩ := RdD (h.below hb) hget
      have hOw := hO l[k] (List.getElem_mem hlt)
      have hsmx := hsm l[k] (List.getElem_mem hlt)
      generalize l[k] = x at *
      have hC := do_any wr p s x hD hG (hOw.below hb) (fun hne hx => by have := hOw.p.lt hne; have := hB _ hx; omega) (fun hne hx => by have := hOw.k.lt hne; have := hB _ hx; omega) (by omega)
      have hgood := actA_good x hOw.hn hG
      have HC := hid hC
      have HB := hid hB
      have HBW := hid hb
      have HH := hid h
      have HSM := hid hsm
      have HO := hid hO
      clear hC hD hG hB hb hOw hget h hsm hO
      go_wp2_with fail
      refine HC.out.mono ?_
      rintro e w3 ⟨v, rfl, _, _, s3, hD3, ha3, hB3, hk3⟩
      have hb3 : Below w.heap.size w w3 := HBW.out.trans (hk3.below HBW.out.size (fun g hg => HB.out g hg))
      have hG3 : s3.abs.Good := by rw [ha3]; exact hgood
      have hR3 : s3.abs.room = room := by rw [ha3, act_room]; exact hR
      have hBk3 : ∀ g, s3.Blk p g → w.heap.size ≤ g := fun g hg => by
        rcases hB3 g hg with h1 | h1
        · exact HB.out g h1
        · exact Nat.le_trans HBW.out.size h1
      have hU := usedD_le hG3
      rw [hR3] at hU
      have hnl := namesD_len hG3
      have HUS := hid (fun W (hW : Ext w3 W) => used_any W p s3 (hD3.ext hW) hG3)
      have HNM := hid (fun W (hW : Ext w3 W) => names_any W p s3 (hD3.ext hW) hG3)
      have HD3 := hid hD3
      have HG3 := hid hG3
      have HR3 := hid hR3
      have HBK3 := hid hBk3
      have HB3 := hid hb3
      generalize usedD s3.abs = u at *
      have hu1 : ¬ room < (u : Int) := by omega
      have hu2 : ¬ (u : Int) < 0 := by omega
      clear hk3 hD3 ha3 hB3 hb3 hG3 hR3 hBk3 hgood hR c0 c1 c2 c3 c4 c5 hx
      go_wp2_with fail
      refine (HUS.out _ (Ext.refl _)).mono ?_
      rintro e w4 ⟨rfl, hE4⟩
      go_wp2_with fail
      refine (HUS.out _ hE4).mono ?_
      rintro e w5 ⟨rfl, hE5⟩
      have hE45 := hE4.trans hE5
      clear hE4 hE5
      go_wp2_with fail
      refine (HNM.out _ hE45).mono ?_
      rintro e w6 ⟨v6, rfl, hown6, hb6⟩
      obtain ⟨a6, g6, o6, c6, rfl, _, _, _⟩ := hown6.rd encN_len
      have hnl' : ¬ (16 : Int) < ((namesD s3.abs).length : Int) := by omega
      generalize (namesD s3.abs).length = nl at *
      have hb36 : Below w3.heap.size w3 w6 := hE45.below.trans (hb6.mono hE45.size)
      have HE := hid hb36
      clear hown6 hb6 hE45 hb36
      go_wp2_with fail
      go_roundw
      case rel => exact ⟨k + 1, s3, by omega, by go_num, HD3.out.below HE.out, HG3.out, HR3.out, HBK3.out, HB3.out.trans (HE.out.mono HB3.out.size)⟩
      case measure => simp [intOf]; omega
    · clear h hO hsm
      have HB := hid hB
      have HBW := hid hb
      have hNM := names_any wr p s hD hG
      have HG := hid hG
      have HD := hid hD
      have HNL := hid (namesD_len hG)
      have HNM := hid hNM
      clear hNM hG hD hB hb hR
      go_wp2_with fail
      refine HNM.out.mono ?_
      rintro e w3 ⟨v3, rfl, hown3, hb3⟩
      obtain ⟨a3, g3, o3, c3, rfl, hc3, hr3, _⟩ := hown3.rd encN_len
      have HD3 := hid (HD.out.below hb3)
      have HB3 := hid (HBW.out.trans (hb3.mono HBW.out.size))
      have HR3 := hid hr3
      obtain ⟨N, hN⟩ : ∃ N, N = namesD s.abs := ⟨_, rfl⟩
      rw [← hN] at HR3 HNL
      rw [← hN]
      have HN := hid hN
      clear hown3 hb3 hr3 hN HNM HD hc3
      have hNl := HNL.out
      go_wp2_with fail
      go_loopw [8] (fun s8 wq => ∃ j : Nat, j ≤ N.length ∧ s8 = .int .i64 j ∧ Below w3.heap.size w3 wq) (fun s8 _ => N.length - (intOf s8).toNat)
      case atStart => exact ⟨0, Nat.zero_le _, rfl, Below.refl _ _⟩
      case round =>
        obtain ⟨j, hj, rfl, hbq⟩ := hrel
        by_cases hjl : j < N.length
        · have hdn : s.abs.down = false := by
            cases hdn : s.abs.down with
            | false => rfl
            | true =>
              have := HN.out
              unfold namesD at this
              rw [hdn] at this
              rw [this] at hjl
              simp at hjl
          have hNe : N = namesOf s.abs.l := by
            have := HN.out
            unfold namesD at this
            rw [hdn] at this
            exact this
          have hix := HR3.out.index (P := Try.prog) Try.underlying47 sizeStr hjl c3
          simp only [Nat.mul_one] at hix
          have hrn := read_name HG.out hdn (j := j) (by rw [← hNe]; exact hjl)
          obtain ⟨n, bs, hnk, hrd, hbl4⟩ := hrn
          have hce : ∀ W, Below w3.heap.size w3 W → W.cell? ⟨g3, o3 + j, none⟩ = some (.string n.1) := fun W hW => by
            have h1 := (HR3.out.below hW).cells j N[j] (by simp [hjl]) 0 _ rfl
            have h2 : encStr N[j] = vS n := by
              rw [← vS_keyL, hnk]
              simp only [hNe]
            rw [h2] at h1
            simpa [vS] using h1
          have HRD : Hid (∀ W, Below w3.heap.size w3 W → Calls Try.prog 16 #[.pointer (some ⟨p, 0, none⟩), .string n.1] W (ReadPost W (bs, 0))) := fun W hW => by
            have := DiskRead_any W p s n (HD3.out.below hW) HG.out
            rw [hrd] at this
            exact this
          have HCE := hid hce
          have HBQ := hid hbq
          have hc0 := hce wr hbq
          clear hce hbq hrd hnk hNe hdn
          go_wp2_with fail
          refine (HRD.out _ HBQ.out).mono ?_
          rintro e w4 ⟨v4, rfl, ho4, hf4, hb4⟩
          have hsq := HBQ.out.size
          have HB4 := hid (HBQ.out.trans (hb4.mono hsq))
          have hs4 := hb4.size
          obtain ⟨a4, g4, o4, c4, rfl, _, _, _⟩ := ho4.rd
          have HF4 := hid hf4
          have HO4 := hid ho4
          clear ho4 hf4 hb4 hc0
          go_wp2_with fail
          go_loopw [11] (fun s11 wz => ∃ k : Nat, k ≤ bs.length ∧ s11 = .int .i64 k ∧ OwnB wz (.slice a4 bs.length c4) (incK k bs) ∧ Below w3.heap.size w3 wz) (fun s11 _ => bs.length - (intOf s11).toNat)
          case atStart => exact ⟨0, Nat.zero_le _, rfl, by rw [incK_zero]; exact HO4.out, HB4.out⟩
          case round =>
            obtain ⟨k, hk, rfl, hoz, hbz⟩ := hrel
            by_cases hkl : k < bs.length
            · have hgx : bs[k]? = some bs[k] := by simp [hkl]
              have hset := incK_set k bs bs[k] hgx
              have hgy := (incK_get k bs).trans hgx
              generalize bs[k] = x at *
              obtain ⟨gz, rfl, hcz, hfz, hiz, hoz2⟩ := hoz.poke hgy
              have hgz : w3.heap.size ≤ gz := Nat.le_trans hsq (HF4.out gz rfl)
              have hsz := hbz.size
              have HO2 := hid (hoz2 (x + 1))
              have HB2 := hid (fun v => setCell_below hbz hsz hgz (o := k) v)
              have HSET := hid hset
              have hwr := wrap_u8 x
              clear hoz hoz2 hbz hset hgx hgy
              go_wp2_with fail
              go_roundw
              case rel => exact ⟨k + 1, by omega, by go_num, by rw [← HSET.out]; exact HO2.out, HB2.out _⟩
              case measure => simp [intOf]; omega
            · have hk0 : k = bs.length := by omega
              have hc0 := HCE.out wr hbz
              have HOZ := hid hoz
              have HBZ := hid hbz
              clear hoz hbz
              go_wp2_with fail
              refine (HRD.out _ HBZ.out).mono ?_
              rintro e w5 ⟨v5, rfl, ho5, hf5, hb5⟩
              obtain ⟨a5, g5, o5, c5, rfl, _, hr5, _⟩ := ho5.rd
              have HB5 := hid (HBZ.out.trans (hb5.mono HBZ.out.size))
              have ho6 := HOZ.out.below hb5
              obtain ⟨a6, g6, o6, c6, e6, _, hr6, _⟩ := ho6.rd
              rw [incK_len] at e6
              cases e6
              have hlm : bs.length ≤ 70368744177664 := by omega
              have hSM : bs ≠ [] → Calls Try.prog 18 #[.slice a4 bs.length c4, .slice a5 bs.length c5] w5 fun e w' => e = .returned (.bool false) ∧ Ext w5 w' := fun hne => by
                have h1 := RefSame_any w5 a4 g6 o6 c4 (incK k bs) a5 g5 o5 c5 bs hr6 hr5 (by rw [incK_len]; exact hlm) hlm
                rw [incK_len, decide_eq_false (incK_ne k bs (by have := List.length_pos_iff.2 hne; omega) hne)] at h1
                exact h1
              have HSM := hid hSM
              clear hSM hr5 hr6 ho5 ho6 hf5 hb5 hc0
              by_cases hbe : bs.length = 0
              · have hbp : ¬ (0 : Int) < (bs.length : Int) := by omega
                generalize bs.length = bl at *
                go_wp2_with fail
                go_roundw
                case rel => exact ⟨j + 1, by omega, by go_num, HB5.out⟩
                case measure => simp [intOf]; omega
              · have hbp : (0 : Int) < (bs.length : Int) := by omega
                have HS2 := hid (HSM.out (fun e => hbe (by rw [e]; rfl)))
                clear HSM
                generalize bs.length = bl at *
                go_wp2_with fail
                refine HS2.out.mono ?_
                rintro e w7 ⟨rfl, hE7⟩
                have HB7 := hid (HB5.out.trans (hE7.below.mono HB5.out.size))
                clear hE7
                go_wp2_with fail
                go_roundw
                case rel => exact ⟨j + 1, by omega, by go_num, HB7.out⟩
                case measure => simp [intOf]; omega
        · have HBB := hid (HB3.out.trans (hbq.mono HB3.out.size))
          clear hbq
          go_wp2_with fail
          refine (DiskAwake _).mono ?_
          rintro e w9 ⟨rfl, hb9⟩
          have HF := hid (below_trans' HBB.out hb9)
          clear hb9
          go_wp2
          go_ret
          exact ⟨rfl, HF.out⟩
theorem DiskRoom_any (w : World) (room : Int) (hr0 : 0 ≤ room) (hr1 : room ≤ 255) (a : Option Addr) (g off cap : Nat) (l : List DAct) (h : RdS encD 6 w a g off l) (hO : ∀ x ∈ l, OkD w x) (hl : l.length ≤ cap) (hcm : cap ≤ maxLen) :
    Calls Try.prog 6 #[.int .u8 room, .slice a l.length cap] w fun e w' => e = .returned (.bool true) ∧ Below w.heap.size w w' := by
  cases hg : greatD l
  case true => exact DR_great w room hr0 hr1 a g off cap l h hO hl hcm hg
  case false => exact DR_small w room hr0 hr1 a g off cap l h hO hl hcm hg
end Go.Proofs.Ytopabknlgmihpaa
