/- The document's index: entries without an id, the ids that a command meets, the number that follows. -/
import Derived.Test.YtlepfohhfngndaaIds
import Derived.Test.YtlepfohhfngndaaCmdB
namespace Go.Proofs.Ytlepfohhfngndaa
open Go Go.RowKit Go.MapKept Go.ChangeMaps Go.Maps

/-- An entry: an id, a command, a number. -/
abbrev Ent : Type := Id × Cmd × Int
def encE (x : Ent) : List Value := [.int .i64 x.1.r, .int .i64 x.1.n, .int .i64 x.2.1.kind, .int .i64 x.2.1.client, .int .i64 x.2.1.seq, .string x.2.1.key, .string x.2.1.val, .int .i64 x.2.1.rev, .int .i64 x.2.2]
theorem encE_len (x : Ent) : (encE x).length = 9 := rfl
theorem sizeE : ∀ W, (sizeOf 60).run Try.prog W = .ok 9 W := fun W => by kernel_rfl
theorem infoE : (Try.prog.info? 60).map (fun i => (i.zero, i.size, i.bytes)) = some (some (.agg #[.int .i64 0, .int .i64 0, .int .i64 0, .int .i64 0, .int .i64 0, .string ⟨#[]⟩, .string ⟨#[]⟩, .int .i64 0, .int .i64 0]), 9, 88) := by kernel_rfl
theorem oneE : ∀ x : Ent, ∀ u ∈ encE x, u.oneCell' = true := fun x u hu => by simp [encE] at hu; rcases hu with rfl | rfl | rfl | rfl | rfl | rfl | rfl | rfl | rfl <;> rfl
theorem elemE : ElemT Try.prog 54 60 encE 9 88 := by
  obtain ⟨i, hi, hz0, hz1, hz2⟩ := info_parts infoE
  exact ⟨Try.underlying54, ⟨i, _, hi, hz0, hz1, hz2, rfl⟩, encE_len, by omega, oneE, by omega⟩

theorem RdE {w : World} {a : Option Addr} {g off : Nat} {l : List Ent} (h : RdS encE 9 w a g off l) {k : Nat} {x : Ent} (hk : l[k]? = some x) : w.cell? ⟨g, off + k * 9, none⟩ = some (.int .i64 x.1.r) ∧ w.cell? ⟨g, off + k * 9 + 1, none⟩ = some (.int .i64 x.1.n) ∧ w.cell? ⟨g, off + k * 9 + 2, none⟩ = some (.int .i64 x.2.1.kind) ∧ w.cell? ⟨g, off + k * 9 + 3, none⟩ = some (.int .i64 x.2.1.client) ∧ w.cell? ⟨g, off + k * 9 + 4, none⟩ = some (.int .i64 x.2.1.seq) ∧ w.cell? ⟨g, off + k * 9 + 5, none⟩ = some (.string x.2.1.key) ∧ w.cell? ⟨g, off + k * 9 + 6, none⟩ = some (.string x.2.1.val) ∧ w.cell? ⟨g, off + k * 9 + 7, none⟩ = some (.int .i64 x.2.1.rev) ∧ w.cell? ⟨g, off + k * 9 + 8, none⟩ = some (.int .i64 x.2.2) :=
  ⟨h.cells k x hk 0 _ rfl, h.cells k x hk 1 _ rfl, h.cells k x hk 2 _ rfl, h.cells k x hk 3 _ rfl, h.cells k x hk 4 _ rfl, h.cells k x hk 5 _ rfl, h.cells k x hk 6 _ rfl, h.cells k x hk 7 _ rfl, h.cells k x hk 8 _ rfl⟩

theorem boxCB {w W : World} (c : Cmd) (but : Id) (hW : Below (w.heap.size + 2) ((w.alloc (.cells #[.int .i64 c.kind, .int .i64 c.client, .int .i64 c.seq, .string c.key, .string c.val, .int .i64 c.rev] 49)).alloc (.cells #[.int .i64 but.r, .int .i64 but.n] 28)) W) : W.cell? ⟨w.heap.size, 0, none⟩ = some (.int .i64 c.kind) ∧ W.cell? ⟨w.heap.size, 1, none⟩ = some (.int .i64 c.client) ∧ W.cell? ⟨w.heap.size, 2, none⟩ = some (.int .i64 c.seq) ∧ W.cell? ⟨w.heap.size, 3, none⟩ = some (.string c.key) ∧ W.cell? ⟨w.heap.size, 4, none⟩ = some (.string c.val) ∧ W.cell? ⟨w.heap.size, 5, none⟩ = some (.int .i64 c.rev) ∧ W.cell? ⟨w.heap.size + 1, 0, none⟩ = some (.int .i64 but.r) ∧ W.cell? ⟨w.heap.size + 1, 1, none⟩ = some (.int .i64 but.n) := by
  refine ⟨?_, ?_, ?_, ?_, ?_, ?_, ?_, ?_⟩ <;> (first | (rw [hW.cell (by simp)]; simp; done) | (rw [hW.cell (by simp)]; simp))


/-- The entries but an id's. -/
def dropE (l : List Ent) (i : Id) : List Ent := l.filter (fun x => decide (x.1 ≠ i))
/-- Does a command meet an entry? -/
def meetsE (c : Cmd) (but : Id) (x : Ent) : Bool := !decide (x.1 = but) && meetB c x.2.1
def metI (l : List Ent) (c : Cmd) (but : Id) : List Id := (l.filter (meetsE c but)).map (·.1)
def seqStep (c : Cmd) (but : Id) (n : Int) (x : Ent) : Int := if meetsE c but x && decide (n < x.2.2) then x.2.2 else n
def seqE (l : List Ent) (c : Cmd) (but : Id) : Int := l.foldl (seqStep c but) 0
theorem dropE_snoc (l : List Ent) (i : Id) (k : Nat) (hk : k < l.length) : dropE (l.take (k + 1)) i = if l[k].1 = i then dropE (l.take k) i else dropE (l.take k) i ++ [l[k]] := by
  unfold dropE
  rw [List.take_succ_eq_append_getElem hk, List.filter_append]
  by_cases h : l[k].1 = i
  · rw [if_pos h]; simp [h]
  · rw [if_neg h]; simp [h]
theorem metI_snoc (l : List Ent) (c : Cmd) (but : Id) (k : Nat) (hk : k < l.length) : metI (l.take (k + 1)) c but = if meetsE c but l[k] then metI (l.take k) c but ++ [l[k].1] else metI (l.take k) c but := by
  unfold metI
  rw [List.take_succ_eq_append_getElem hk, List.filter_append]
  by_cases h : meetsE c but l[k] = true
  · rw [if_pos h, List.filter_cons_of_pos h]; simp
  · rw [if_neg h, List.filter_cons_of_neg h]; simp
theorem metI_len (l : List Ent) (c : Cmd) (but : Id) : (metI l c but).length ≤ l.length := by
  unfold metI
  rw [List.length_map]
  exact List.length_filter_le _ _
theorem seqE_snoc (l : List Ent) (c : Cmd) (but : Id) (k : Nat) (hk : k < l.length) : seqE (l.take (k + 1)) c but = seqStep c but (seqE (l.take k) c but) l[k] := by
  unfold seqE
  rw [List.take_succ_eq_append_getElem hk, List.foldl_append]
  rfl
theorem seqE_bound (c : Cmd) (but : Id) (M : Int) (l : List Ent) (h : ∀ x ∈ l, x.2.2 ≤ M) : ∀ n : Int, 0 ≤ n → n ≤ M → 0 ≤ l.foldl (seqStep c but) n ∧ l.foldl (seqStep c but) n ≤ M := by
  induction l with
  | nil => intro n h0 h1; exact ⟨h0, h1⟩
  | cons x r ih =>
    intro n h0 h1
    rw [List.foldl_cons]
    refine ih (fun y hy => h y (List.mem_cons_of_mem _ hy)) _ ?_ ?_
    · unfold seqStep
      split
      · rename_i hc
        simp at hc
        omega
      · exact h0
    · unfold seqStep
      split
      · exact h x List.mem_cons_self
      · exact h1

set_option maxRecDepth 100000 in
set_option maxHeartbeats 3200000 in
theorem RefDrop_any (w : World) (a : Option Addr) (g off cap : Nat) (l : List Ent) (i : Id) (h : RdS encE 9 w a g off l) (hl : l.length ≤ 1000) :
    Calls Try.prog 24 #[.slice a l.length cap, .agg #[.int .i64 i.r, .int .i64 i.n]] w fun e w' => ∃ v, e = .returned v ∧ Owns w.heap.size 60 encE 9 w' v (dropE l i) ∧ Below w.heap.size w w' := by
  go_enter Try.func24, Try.ntmps24
  go_wp2
  go_loopw [5, 6] (fun s5 s6 wr => ∃ k : Nat, k ≤ l.length ∧ s6 = .int .i64 k ∧ Owns (w.heap.size + 1) 60 encE 9 wr s5 (dropE (l.take k) i) ∧ Below (w.heap.size + 1) (w.alloc (.cells #[.int .i64 i.r, .int .i64 i.n] 28)) wr) (fun _ s6 _ => l.length - (intOf s6).toNat)
  case atStart => exact ⟨0, Nat.zero_le _, rfl, Owns.nil _ _ _ _ _, Below.refl _ _⟩
  case round =>
    obtain ⟨k, hk, rfl, hown, hb⟩ := hrel
    have hbw : Below w.heap.size w wr := ((Ext.refl w).alloc _).below.trans (hb.mono (by omega))
    have hsz := hb.size
    simp at hsz
    by_cases hlt : k < l.length
    · have hx := h.index (P := Try.prog) Try.underlying54 sizeE hlt cap
      have h1 := h.below hbw
      have hget : l[k]? = some l[k] := by simp [hlt]
      obtain ⟨c0, c1, c2, c3, c4, c5, c6, c7, c8⟩ := RdE h1 hget
      have d0 : wr.cell? ⟨w.heap.size, 0, none⟩ = some (.int .i64 i.r) := by rw [hb.cell (p := ⟨w.heap.size, 0, none⟩) (by simp)]; simp
      have d1 : wr.cell? ⟨w.heap.size, 1, none⟩ = some (.int .i64 i.n) := by rw [hb.cell (p := ⟨w.heap.size, 1, none⟩) (by simp)]; simp
      have hsnoc := dropE_snoc l i k hlt
      have hne := run_neq_id l[k].1 i
      have hlen : (dropE (l.take k) i).length ≤ k := Nat.le_trans (List.length_filter_le _ _) (List.length_take_le _ _)
      generalize l[k] = x at *
      by_cases hxi : x.1 = i
      · rw [if_pos hxi] at hsnoc
        have hd : decide (x.1 = i) = true := by simpa using hxi
        rw [hd] at hne
        have HS := hid hsnoc
        have HB := hid hb
        clear hsnoc hxi hd h h1 hb hbw hget
        go_wp2
        go_quiet (fail)
        go_wp2
        go_roundw
        case rel => exact ⟨k + 1, by omega, by go_num, by rw [HS.out]; exact hown, bdrewN HB.out _⟩
        case measure => simp [intOf]; omega
      · rw [if_neg hxi] at hsnoc
        have hd : decide (x.1 = i) = false := by simpa using hxi
        rw [hd] at hne
        have HS := hid hsnoc
        have HB := hid hb
        clear hsnoc hxi hd h h1 hb hbw hget
        go_wp2
        go_quiet (fail)
        go_wp2_with (at_builtin; refine wpList_push elemE rfl _ _ rfl (w.heap.size + 1) _ (dropE (l.take k) i) rfl ((hown.alloc _).drewN nq) wr.heap.size 1 x rfl (cells_new _ _ _) (by omega) (by simp; omega) ?_; intro v' w1 hown' hgrow)
        go_roundw
        case rel => exact ⟨k + 1, by omega, by go_num, by rw [HS.out]; exact hown', Owns.push ((hown.alloc _).drewN nq) (bdrewN (HB.out.alloc (by omega) _) nq) hgrow (by simp; omega)⟩
        case measure => simp [intOf]; omega
    · have hk' : l.take k = l := List.take_of_length_le (by omega)
      rw [hk'] at hown
      have HB := hid hbw
      clear hk' h hb hbw
      go_wp2
      go_ret
      exact ⟨_, rfl, hown.mono (by omega), HB.out⟩

set_option maxRecDepth 100000 in
set_option maxHeartbeats 3200000 in
theorem RefDeps_any (w : World) (a : Option Addr) (g off cap : Nat) (l : List Ent) (c : Cmd) (but : Id) (h : RdS encE 9 w a g off l) (hl : l.length ≤ 1000) :
    Calls Try.prog 30 #[.slice a l.length cap, .agg #[.int .i64 c.kind, .int .i64 c.client, .int .i64 c.seq, .string c.key, .string c.val, .int .i64 c.rev], .agg #[.int .i64 but.r, .int .i64 but.n]] w fun e w' => ∃ v, e = .returned v ∧ Owns w.heap.size 28 encId 2 w' v (setR (metI l c but)) ∧ Below w.heap.size w w' := by
  go_enter Try.func30, Try.ntmps30
  go_wp2
  go_loopw [7, 8] (fun s7 s8 wr => ∃ k : Nat, k ≤ l.length ∧ s8 = .int .i64 k ∧ Owns (w.heap.size + 2) 28 encId 2 wr s7 (metI (l.take k) c but) ∧ Below (w.heap.size + 2) ((w.alloc (.cells #[.int .i64 c.kind, .int .i64 c.client, .int .i64 c.seq, .string c.key, .string c.val, .int .i64 c.rev] 49)).alloc (.cells #[.int .i64 but.r, .int .i64 but.n] 28)) wr) (fun _ s8 _ => l.length - (intOf s8).toNat)
  case atStart => exact ⟨0, Nat.zero_le _, rfl, Owns.nil _ _ _ _ _, Below.refl _ _⟩
  case round =>
    obtain ⟨k, hk, rfl, hown, hb⟩ := hrel
    have hbx : Below w.heap.size w ((w.alloc (.cells #[.int .i64 c.kind, .int .i64 c.client, .int .i64 c.seq, .string c.key, .string c.val, .int .i64 c.rev] 49)).alloc (.cells #[.int .i64 but.r, .int .i64 but.n] 28)) := (((Ext.refl w).alloc _).alloc _).below
    have hbw : Below w.heap.size w wr := hbx.trans (hb.mono (by omega))
    have hsz := hb.size
    simp at hsz
    by_cases hlt : k < l.length
    · have hx := h.index (P := Try.prog) Try.underlying54 sizeE hlt cap
      have h1 := h.below hbw
      have hget : l[k]? = some l[k] := by simp [hlt]
      have hgl : g < wr.heap.size := h1.lt (by intro e; subst e; simp at hlt)
      obtain ⟨c0, c1, c2, c3, c4, c5, c6, c7, c8⟩ := RdE h1 hget
      obtain ⟨b0, b1, b2, b3, b4, b5, d0, d1⟩ := boxCB c but hb
      have hsnoc := metI_snoc l c but k hlt
      have hlen := metI_len (l.take k) c but
      have hlt2 : (l.take k).length ≤ k := List.length_take_le _ _
      have hne := run_neq_id l[k].1 but
      have hMe := fun W => RefMeet_any c l[k].2.1 W
      have hxc : ∀ W, Ext wr W → ∃ hh : True, W.cell? ⟨g, off + k * 9, none⟩ = some (.int .i64 l[k].1.r) ∧ W.cell? ⟨g, off + k * 9 + 1, none⟩ = some (.int .i64 l[k].1.n) ∧ W.cell? ⟨g, off + k * 9 + 2, none⟩ = some (.int .i64 l[k].2.1.kind) ∧ W.cell? ⟨g, off + k * 9 + 3, none⟩ = some (.int .i64 l[k].2.1.client) ∧ W.cell? ⟨g, off + k * 9 + 4, none⟩ = some (.int .i64 l[k].2.1.seq) ∧ W.cell? ⟨g, off + k * 9 + 5, none⟩ = some (.string l[k].2.1.key) ∧ W.cell? ⟨g, off + k * 9 + 6, none⟩ = some (.string l[k].2.1.val) ∧ W.cell? ⟨g, off + k * 9 + 7, none⟩ = some (.int .i64 l[k].2.1.rev) ∧ W.cell? ⟨g, off + k * 9 + 8, none⟩ = some (.int .i64 l[k].2.2) := fun W hW => ⟨trivial, RdE (h1.below hW.below) hget⟩
      generalize l[k] = x at *
      by_cases hxi : x.1 = but
      · have hm : meetsE c but x = false := by unfold meetsE; simp [hxi]
        have HS := hid (show metI (l.take (k + 1)) c but = metI (l.take k) c but by rw [hsnoc]; simp [hm])
        have hd : decide (x.1 = but) = true := by simpa using hxi
        rw [hd] at hne
        have HB := hid hb
        clear hsnoc hxi hd h h1 hb hbw hget hm hMe hxc
        go_wp2
        go_quiet (fail)
        go_wp2
        go_roundw
        case rel => exact ⟨k + 1, by omega, by go_num, by rw [HS.out]; exact hown, bdrewN HB.out _⟩
        case measure => simp [intOf]; omega
      · have hd : decide (x.1 = but) = false := by simpa using hxi
        rw [hd] at hne
        have HB := hid hb
        have HX := hid hxc
        have C0 := gcell (by omega) c0
        have C1 := gcell (by omega) c1
        have C2 := gcell (by omega) c2
        have C3 := gcell (by omega) c3
        have C4 := gcell (by omega) c4
        have C5 := gcell (by omega) c5
        have C6 := gcell (by omega) c6
        have C7 := gcell (by omega) c7
        have C8 := gcell (by omega) c8
        have B0 := gcell (by omega) b0
        have B1 := gcell (by omega) b1
        have B2 := gcell (by omega) b2
        have B3 := gcell (by omega) b3
        have B4 := gcell (by omega) b4
        have B5 := gcell (by omega) b5
        have D0 := gcell (by omega) d0
        have D1 := gcell (by omega) d1
        clear c0 c1 c2 c3 c4 c5 c6 c7 c8 b0 b1 b2 b3 b4 b5 d0 d1
        cases hmt : meetB c x.2.1
        case false =>
          have hm : meetsE c but x = false := by unfold meetsE; simp [hmt]
          have HS := hid (show metI (l.take (k + 1)) c but = metI (l.take k) c but by rw [hsnoc]; simp [hm])
          rw [hmt] at hMe
          have HA := hid hMe
          clear hsnoc hxi hd h h1 hb hbw hget hm hmt hMe hxc
          go_wp2_with fail
          refine wp_region_quiet_grown (by kernel_rfl) (by kernel_rfl) ?_
          repeat (quiet_step ((go_at_call 48; exact Calls.grown_of (HA.out _))))
          refine wpQuiet_nil ?_
          intro _ hw'
          obtain ⟨⟨nq, osq⟩, hw''⟩ := hw'
          subst hw''
          clear C0 C1 C2 C3 C4 C5 C6 C7 C8 B0 B1 B2 B3 B4 B5 D0 D1
          obtain ⟨wq, hwq⟩ : ∃ wq, wq = Sort.grow (wr.drewN nq) osq := ⟨_, rfl⟩
          have hE : Ext wr wq := ⟨nq, osq, hwq⟩
          rw [← hwq]
          clear hwq
          have hqs := hE.size
          have hbq := HB.out.trans (hE.below.mono (by omega : w.heap.size + 2 ≤ wr.heap.size))
          have hownq := hown.ext hE
          go_wp2
          go_roundw
          case rel => exact ⟨k + 1, by omega, by go_num, by rw [HS.out]; exact hownq, hbq⟩
          case measure => simp [intOf]; omega
        case true =>
          have hm : meetsE c but x = true := by unfold meetsE; simp [hmt, hxi]
          rw [hmt] at hMe
          have HA := hid hMe
          have HS := hid (show metI (l.take (k + 1)) c but = metI (l.take k) c but ++ [x.1] by rw [hsnoc]; simp [hm])
          clear hsnoc hxi hd h h1 hb hbw hget hm hmt hMe hxc
          go_wp2_with fail
          refine wp_region_quiet_grown (by kernel_rfl) (by kernel_rfl) ?_
          repeat (quiet_step ((go_at_call 48; exact Calls.grown_of (HA.out _))))
          refine wpQuiet_nil ?_
          intro _ hw'
          obtain ⟨⟨nq, osq⟩, hw''⟩ := hw'
          subst hw''
          clear C0 C1 C2 C3 C4 C5 C6 C7 C8 B0 B1 B2 B3 B4 B5 D0 D1
          obtain ⟨wq, hwq⟩ : ∃ wq, wq = Sort.grow (wr.drewN nq) osq := ⟨_, rfl⟩
          have hE : Ext wr wq := ⟨nq, osq, hwq⟩
          rw [← hwq]
          clear hwq
          have hqs := hE.size
          have hbq := HB.out.trans (hE.below.mono (by omega : w.heap.size + 2 ≤ wr.heap.size))
          have hownq := hown.ext hE
          obtain ⟨_, c0, c1, c2, c3, c4, c5, c6, c7, c8⟩ := HX.out wq hE
          go_wp2_with (at_builtin; refine wpList_push elemId rfl _ _ rfl (w.heap.size + 2) _ (metI (l.take k) c but) rfl (hownq.alloc _) wq.heap.size 1 x.1 rfl (cells_new _ _ _) (by omega) (by simp; omega) ?_; intro v2 w2 hown2 hgrow2)
          go_roundw
          case rel => exact ⟨k + 1, by omega, by go_num, by rw [HS.out]; exact hown2, Owns.push (hownq.alloc _) (hbq.alloc (by omega) _) hgrow2 (by simp; omega)⟩
          case measure => simp [intOf]; omega
    · have hk' : l.take k = l := List.take_of_length_le (by omega)
      rw [hk'] at hown
      have hlen := metI_len l c but
      obtain ⟨aO, gO, oO, cO, hvO, hcO, hrO, hnO⟩ := Owns.rd encId_len hown
      subst hvO
      have HB := hid hbw
      have HS := hid (show setR (metI l c but) = setR (metI l c but) from rfl)
      clear hk' h hb hbw hbx
      go_wp2_with fail
      refine (RefSetI_any _ aO gO oO cO _ hrO (by omega)).mono ?_
      rintro e w2 ⟨v, rfl, hown2, hb2⟩
      have hs := HB.out.size
      have hbf := below_trans' HB.out hb2
      have HF := hid hbf
      clear hb2 hbf HS
      go_wp2
      go_ret
      exact ⟨_, rfl, hown2.mono hs, HF.out⟩

set_option maxRecDepth 100000 in
set_option maxHeartbeats 3200000 in
theorem RefSeq_any (w : World) (a : Option Addr) (g off cap : Nat) (l : List Ent) (c : Cmd) (but : Id) (h : RdS encE 9 w a g off l) (hl : l.length ≤ 1000) (hM : ∀ x ∈ l, x.2.2 ≤ 1152921504606846976) :
    Calls Try.prog 32 #[.slice a l.length cap, .agg #[.int .i64 c.kind, .int .i64 c.client, .int .i64 c.seq, .string c.key, .string c.val, .int .i64 c.rev], .agg #[.int .i64 but.r, .int .i64 but.n]] w fun e w' => e = .returned (.int .i64 (seqE l c but + 1)) ∧ Below w.heap.size w w' := by
  go_enter Try.func32, Try.ntmps32
  go_wp2
  go_loopw [7, 8] (fun s7 s8 wr => ∃ k : Nat, k ≤ l.length ∧ s8 = .int .i64 k ∧ s7 = .int .i64 (seqE (l.take k) c but) ∧ Below (w.heap.size + 2) ((w.alloc (.cells #[.int .i64 c.kind, .int .i64 c.client, .int .i64 c.seq, .string c.key, .string c.val, .int .i64 c.rev] 49)).alloc (.cells #[.int .i64 but.r, .int .i64 but.n] 28)) wr) (fun _ s8 _ => l.length - (intOf s8).toNat)
  case atStart => exact ⟨0, Nat.zero_le _, rfl, rfl, Below.refl _ _⟩
  case round =>
    obtain ⟨k, hk, rfl, rfl, hb⟩ := hrel
    have hbx : Below w.heap.size w ((w.alloc (.cells #[.int .i64 c.kind, .int .i64 c.client, .int .i64 c.seq, .string c.key, .string c.val, .int .i64 c.rev] 49)).alloc (.cells #[.int .i64 but.r, .int .i64 but.n] 28)) := (((Ext.refl w).alloc _).alloc _).below
    have hbw : Below w.heap.size w wr := hbx.trans (hb.mono (by omega))
    have hsz := hb.size
    simp at hsz
    by_cases hlt : k < l.length
    · have hx := h.index (P := Try.prog) Try.underlying54 sizeE hlt cap
      have h1 := h.below hbw
      have hget : l[k]? = some l[k] := by simp [hlt]
      have hgl : g < wr.heap.size := h1.lt (by intro e; subst e; simp at hlt)
      obtain ⟨c0, c1, c2, c3, c4, c5, c6, c7, c8⟩ := RdE h1 hget
      obtain ⟨b0, b1, b2, b3, b4, b5, d0, d1⟩ := boxCB c but hb
      have hsnoc := seqE_snoc l c but k hlt
      have hbnd := seqE_bound c but 1152921504606846976 (l.take k) (fun x hx => hM x (List.mem_of_mem_take hx)) 0 (by omega) (by omega)
      change 0 ≤ seqE (l.take k) c but ∧ seqE (l.take k) c but ≤ _ at hbnd
      have hne := run_neq_id l[k].1 but
      have hMe := fun W => RefMeet_any c l[k].2.1 W
      have hxc : ∀ W, Ext wr W → ∃ hh : True, W.cell? ⟨g, off + k * 9, none⟩ = some (.int .i64 l[k].1.r) ∧ W.cell? ⟨g, off + k * 9 + 1, none⟩ = some (.int .i64 l[k].1.n) ∧ W.cell? ⟨g, off + k * 9 + 2, none⟩ = some (.int .i64 l[k].2.1.kind) ∧ W.cell? ⟨g, off + k * 9 + 3, none⟩ = some (.int .i64 l[k].2.1.client) ∧ W.cell? ⟨g, off + k * 9 + 4, none⟩ = some (.int .i64 l[k].2.1.seq) ∧ W.cell? ⟨g, off + k * 9 + 5, none⟩ = some (.string l[k].2.1.key) ∧ W.cell? ⟨g, off + k * 9 + 6, none⟩ = some (.string l[k].2.1.val) ∧ W.cell? ⟨g, off + k * 9 + 7, none⟩ = some (.int .i64 l[k].2.1.rev) ∧ W.cell? ⟨g, off + k * 9 + 8, none⟩ = some (.int .i64 l[k].2.2) := fun W hW => ⟨trivial, RdE (h1.below hW.below) hget⟩
      generalize l[k] = x at *
      obtain ⟨n, hn⟩ : ∃ n, n = seqE (l.take k) c but := ⟨_, rfl⟩
      rw [← hn] at hsnoc hbnd
      rw [← hn]
      clear hn
      by_cases hxi : x.1 = but
      · have hm : meetsE c but x = false := by unfold meetsE; simp [hxi]
        have HS := hid (show seqE (l.take (k + 1)) c but = n by rw [hsnoc]; unfold seqStep; simp [hm])
        have hd : decide (x.1 = but) = true := by simpa using hxi
        rw [hd] at hne
        have HB := hid hb
        clear hsnoc hxi hd h h1 hb hbw hget hm hMe hxc
        go_wp2
        go_quiet (fail)
        go_wp2
        go_roundw
        case rel => exact ⟨k + 1, by omega, by go_num, by rw [HS.out], bdrewN HB.out _⟩
        case measure => simp [intOf]; omega
      · have hd : decide (x.1 = but) = false := by simpa using hxi
        rw [hd] at hne
        have HB := hid hb
        have HX := hid hxc
        have C0 := gcell (by omega) c0
        have C1 := gcell (by omega) c1
        have C2 := gcell (by omega) c2
        have C3 := gcell (by omega) c3
        have C4 := gcell (by omega) c4
        have C5 := gcell (by omega) c5
        have C6 := gcell (by omega) c6
        have C7 := gcell (by omega) c7
        have C8 := gcell (by omega) c8
        have B0 := gcell (by omega) b0
        have B1 := gcell (by omega) b1
        have B2 := gcell (by omega) b2
        have B3 := gcell (by omega) b3
        have B4 := gcell (by omega) b4
        have B5 := gcell (by omega) b5
        have D0 := gcell (by omega) d0
        have D1 := gcell (by omega) d1
        clear c0 c1 c2 c3 c4 c5 c6 c7 c8 b0 b1 b2 b3 b4 b5 d0 d1
        cases hmt : meetB c x.2.1
        case false =>
          have hm : meetsE c but x = false := by unfold meetsE; simp [hmt]
          have HS := hid (show seqE (l.take (k + 1)) c but = n by rw [hsnoc]; unfold seqStep; simp [hm])
          rw [hmt] at hMe
          have HA := hid hMe
          clear hsnoc hxi hd h h1 hb hbw hget hm hmt hMe hxc
          go_wp2_with fail
          refine wp_region_quiet_grown (by kernel_rfl) (by kernel_rfl) ?_
          repeat (quiet_step ((go_at_call 48; exact Calls.grown_of (HA.out _))))
          refine wpQuiet_nil ?_
          intro _ hw'
          obtain ⟨⟨nq, osq⟩, hw''⟩ := hw'
          subst hw''
          clear C0 C1 C2 C3 C4 C5 C6 C7 C8 B0 B1 B2 B3 B4 B5 D0 D1
          obtain ⟨wq, hwq⟩ : ∃ wq, wq = Sort.grow (wr.drewN nq) osq := ⟨_, rfl⟩
          have hE : Ext wr wq := ⟨nq, osq, hwq⟩
          rw [← hwq]
          clear hwq
          have hqs := hE.size
          have hbq := HB.out.trans (hE.below.mono (by omega : w.heap.size + 2 ≤ wr.heap.size))
          go_wp2
          go_roundw
          case rel => exact ⟨k + 1, by omega, by go_num, by rw [HS.out], hbq⟩
          case measure => simp [intOf]; omega
        case true =>
          have hm : meetsE c but x = true := by unfold meetsE; simp [hmt, hxi]
          rw [hmt] at hMe
          have HA := hid hMe
          by_cases hns : n < x.2.2
          · have HS := hid (show seqE (l.take (k + 1)) c but = x.2.2 by rw [hsnoc]; unfold seqStep; simp [hm, hns])
            clear hsnoc hxi hd h h1 hb hbw hget hm hmt hMe hxc
            go_wp2_with fail
            refine wp_region_quiet_grown (by kernel_rfl) (by kernel_rfl) ?_
            repeat (quiet_step ((go_at_call 48; exact Calls.grown_of (HA.out _))))
            refine wpQuiet_nil ?_
            intro _ hw'
            obtain ⟨⟨nq, osq⟩, hw''⟩ := hw'
            subst hw''
            clear C0 C1 C2 C3 C4 C5 C6 C7 C8 B0 B1 B2 B3 B4 B5 D0 D1
            obtain ⟨wq, hwq⟩ : ∃ wq, wq = Sort.grow (wr.drewN nq) osq := ⟨_, rfl⟩
            have hE : Ext wr wq := ⟨nq, osq, hwq⟩
            rw [← hwq]
            clear hwq
            have hqs := hE.size
            have hbq := HB.out.trans (hE.below.mono (by omega : w.heap.size + 2 ≤ wr.heap.size))
            obtain ⟨_, c0, c1, c2, c3, c4, c5, c6, c7, c8⟩ := HX.out wq hE
            go_wp2
            go_roundw
            case rel => exact ⟨k + 1, by omega, by go_num, by rw [HS.out], hbq⟩
            case measure => simp [intOf]; omega
          · have HS := hid (show seqE (l.take (k + 1)) c but = n by rw [hsnoc]; unfold seqStep; simp [hm, hns])
            have hns2 : x.2.2 ≤ n := by omega
            clear hsnoc hxi hd h h1 hb hbw hget hm hmt hMe hxc
            go_wp2_with fail
            refine wp_region_quiet_grown (by kernel_rfl) (by kernel_rfl) ?_
            repeat (quiet_step ((go_at_call 48; exact Calls.grown_of (HA.out _))))
            refine wpQuiet_nil ?_
            intro _ hw'
            obtain ⟨⟨nq, osq⟩, hw''⟩ := hw'
            subst hw''
            clear C0 C1 C2 C3 C4 C5 C6 C7 C8 B0 B1 B2 B3 B4 B5 D0 D1
            obtain ⟨wq, hwq⟩ : ∃ wq, wq = Sort.grow (wr.drewN nq) osq := ⟨_, rfl⟩
            have hE : Ext wr wq := ⟨nq, osq, hwq⟩
            rw [← hwq]
            clear hwq
            have hqs := hE.size
            have hbq := HB.out.trans (hE.below.mono (by omega : w.heap.size + 2 ≤ wr.heap.size))
            go_wp2
            go_roundw
            case rel => exact ⟨k + 1, by omega, by go_num, by rw [HS.out], hbq⟩
            case measure => simp [intOf]; omega
    · have hk' : l.take k = l := List.take_of_length_le (by omega)
      rw [hk']
      have hbnd := seqE_bound c but 1152921504606846976 l hM 0 (by omega) (by omega)
      change 0 ≤ seqE l c but ∧ seqE l c but ≤ _ at hbnd
      obtain ⟨n, hn⟩ : ∃ n, n = seqE l c but := ⟨_, rfl⟩
      rw [← hn] at hbnd
      rw [← hn]
      have HN := hid hn
      have HB := hid hbw
      clear hn hk' h hb hbw hbx
      go_wp2
      go_ret
      exact ⟨by rw [HN.out]; rfl, HB.out⟩

end Go.Proofs.Ytlepfohhfngndaa
