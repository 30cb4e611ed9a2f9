/- Sums: crc.reckon, crc.Sum. -/
import Derived.Test.YtopabknlgmihpaaSame
import Derived.Laws.DeepBits32
import Derived.Deep.MidRow
namespace Go.Proofs.Ytopabknlgmihpaa
open Go Go.RowKit Go.MapKept Go.ChangeMaps Go.Maps

theorem heap_set_at {w : World} {p o : Nat} {cur : Array Value} {e : TypeId} {fz : Nat × Nat} (h : w.heap[p]? = some (.cells cur e fz)) (v : Value) : (w.setCell ⟨p, o, none⟩ v).heap[p]? = some (.cells (cur.setIfInBounds o v) e fz) := by
  simp [World.setCell, Array.getElem?_modify, h]
theorem Ext.setCells {w w' : World} (h : Ext w w') {b : Nat} (hb : w.heap.size ≤ b) : ∀ (vs : List Value) (o : Nat), Ext w (w'.setCells b o vs) := fun vs => by
  induction vs generalizing w' with
  | nil => intro o; exact h
  | cons v r ih => intro o; exact ih (h.setCell (p := ⟨b, o, none⟩) hb v) (o + 1)
theorem results_cell1 {fn : Func} {p : Tmp} {ty : TypeId} (h : fn.results = #[.cell p ty]) (tmps : Array Value) (P : Program) (w : World) :
    (results fn tmps).run P w = ((asAddr (tmps.getD p undef)).run P w).andThen fun a w₁ => (loadVar ty a).run P w₁ := by
  simp only [results, h]
  simp [Sem.run_bind, Result.andThen]
def stepI (v : Int) : Int := bits .xor .u32 (v / 2) (2197175160 * bits .and .u32 v 1 % 4294967296)
def itS : Nat → Int → Int
  | 0, v => v
  | k + 1, v => stepI (itS k v)
def tabI (j : Nat) : Int := itS 4 j
def tabL : List Value := (List.range 16).map (fun j => .int .u32 (tabI j))
theorem bits_u32 (op : BinOp) (x y : Int) : 0 ≤ bits op .u32 x y ∧ bits op .u32 x y ≤ 4294967295 := by
  unfold bits
  have h : ∀ n : Int, IntKind.u32.wrap n = n % 4294967296 := fun n => by
    simp [IntKind.wrap, IntKind.signed, IntKind.bits]
  rw [h]
  omega
theorem itS_range (k : Nat) {v : Int} (h0 : 0 ≤ v) (h1 : v ≤ 4294967295) : 0 ≤ itS k v ∧ itS k v ≤ 4294967295 := by
  cases k with
  | zero => exact ⟨h0, h1⟩
  | succ k => exact bits_u32 .xor (itS k v / 2) (2197175160 * bits .and .u32 (itS k v) 1 % 4294967296)
theorem tabI_range (j : Nat) : 0 ≤ tabI j ∧ tabI j ≤ 4294967295 := bits_u32 .xor (itS 3 j / 2) (2197175160 * bits .and .u32 (itS 3 j) 1 % 4294967296)
def tabN (i : Nat) : List Value := (List.range 16).map (fun j => .int .u32 (if j < i then tabI j else 0))
theorem tabN_len (i : Nat) : (tabN i).length = 16 := by simp [tabN]
theorem tabN_get (i j : Nat) (hj : j < 16) : (tabN i)[j]? = some (.int .u32 (if j < i then tabI j else 0)) := by
  unfold tabN
  rw [List.getElem?_map, List.getElem?_range hj]
  rfl
theorem tabN_set (i : Nat) : (tabN i).set i (.int .u32 (tabI i)) = tabN (i + 1) := by
  apply List.ext_getElem?
  intro j
  rw [List.getElem?_set, tabN_len]
  by_cases hj : j < 16
  · rw [tabN_get _ _ hj, tabN_get _ _ hj]
    by_cases e : i = j
    · subst e
      rw [if_pos rfl, if_pos hj, if_pos (by omega)]
    · rw [if_neg e]
      by_cases h : j < i
      · rw [if_pos h, if_pos (by omega)]
      · rw [if_neg h, if_neg (by omega)]
  · have h1 : (tabN i)[j]? = none := List.getElem?_eq_none (by rw [tabN_len]; omega)
    have h2 : (tabN (i + 1))[j]? = none := List.getElem?_eq_none (by rw [tabN_len]; omega)
    rw [h1, h2]
    split
    · split
      · omega
      · rfl
    · rfl
theorem tabN_0 : tabN 0 = [.int .u32 0, .int .u32 0, .int .u32 0, .int .u32 0, .int .u32 0, .int .u32 0, .int .u32 0, .int .u32 0, .int .u32 0, .int .u32 0, .int .u32 0, .int .u32 0, .int .u32 0, .int .u32 0, .int .u32 0, .int .u32 0] := rfl
theorem tabN_16 : tabN 16 = tabL := by
  unfold tabN tabL
  refine List.map_congr_left (fun j hj => ?_)
  rw [if_pos (by simpa using hj)]
set_option maxRecDepth 100000 in
set_option maxHeartbeats 1600000 in
theorem reckon_any (w : World) : Calls Try.prog 88 #[] w fun e w' => e = .returned (.agg tabL.toArray) ∧ Ext w w' := by
  go_enter Try.func88, Try.ntmps88
  go_wp2
  go_loopw [4] (fun s4 wr => ∃ i : Nat, i ≤ 16 ∧ s4 = .int .i64 i ∧ wr.heap[w.heap.size]? = some (.cells (tabN i).toArray 121 (0, 0)) ∧ Ext w wr) (fun s4 _ => 16 - (intOf s4).toNat)
  case atStart => exact ⟨0, by omega, rfl, by rw [heap_alloc_new]; rfl, (Ext.refl w).alloc _⟩
  case round =>
    obtain ⟨i, hi, rfl, hh, hE⟩ := hrel
    by_cases hlt : i < 16
    · have hw : IntKind.u32.wrap (i : Int) = (i : Int) := by simp [IntKind.wrap, IntKind.signed, IntKind.bits]; omega
      have hc : wr.cell? ⟨w.heap.size, i, none⟩ = some (.int .u32 0) := by
        simp only [World.cell?, hh]
        have := tabN_get i i hlt
        simpa using this
      have hf : wr.frozen? ⟨w.heap.size, i, none⟩ = false := by simp [World.frozen?, hh]
      have HH := hid hh
      have HE := hid hE
      have HR := hid (fun k => itS_range k (v := (i : Int)) (by omega) (by omega))
      clear hh hE
      go_wp2
      go_loop [2, 9] (fun s2 s9 => ∃ k : Nat, k ≤ 4 ∧ s9 = .int .i64 k ∧ s2 = .int .u32 (itS k i)) (fun _ s9 => 4 - (intOf s9).toNat)
      case atStart => exact ⟨0, by omega, rfl, rfl⟩
      case round =>
        obtain ⟨k, hk, rfl, rfl⟩ := hrel
        obtain ⟨hv0, hv1⟩ := HR.out k
        by_cases hlk : k < 4
        · have HS := hid (show itS (k + 1) i = bits .xor .u32 (itS k i / 2) (2197175160 * bits .and .u32 (itS k i) 1 % 4294967296) from rfl)
          generalize itS k i = v at *
          go_wp2
          go_round
          case rel => exact ⟨k + 1, by omega, by go_num, by rw [HS.out]⟩
          case measure => simp [intOf]; omega
        · have hk4 : k = 4 := by omega
          subst hk4
          have HT := hid (show itS 4 i = tabI i from rfl)
          generalize itS 4 i = v at *
          go_wp2
          go_roundw
          case rel => exact ⟨i + 1, by omega, by go_num, by
            rw [heap_set_at HH.out, HT.out]
            congr 2
            apply Array.ext'
            rw [Array.toList_setIfInBounds]
            exact tabN_set i, HE.out.setCell (Nat.le_refl _) _⟩
          case measure => simp [intOf]; omega
    · have hi16 : i = 16 := by omega
      subst hi16
      rw [tabN_16] at hh
      have HH := hid hh
      have HE := hid hE
      clear hh hE
      have hrg : wr.rangeAt w.heap.size 0 tabL := fun j v hv => by
        simp only [World.cell?, HH.out, Nat.zero_add]
        simpa using hv
      have hth : wr.there w.heap.size 0 16 := fun j hj => by
        refine ⟨?_, by simp [World.frozen?, HH.out]⟩
        have : j < tabL.length := by simp [tabL]; exact hj
        rw [hrg j tabL[j] (by simp [this])]
        rfl
      have h1 : tabL.toArray.all (·.oneCell') = true := all_oneCell_toArray (fun v hv => by
        obtain ⟨j, _, rfl⟩ := List.mem_map.1 hv
        rfl)
      have hi : (Try.prog.info? 121).map (·.size) = some tabL.length := by kernel_rfl
      have hst : (storeCells ⟨w.heap.size, 0, none⟩ tabL).run Try.prog wr = .ok () (wr.setCells w.heap.size 0 tabL) := by
        have := run_storeCells_cells (P := Try.prog) w.heap.size 0 tabL 0 wr (fun j hj => by simpa using (hth j (by simpa [tabL] using hj)).1) (fun j hj => by simpa using (hth j (by simpa [tabL] using hj)).2) (fun v hv => (Array.all_eq_true_iff_forall_mem.1 h1) v (by simpa using hv))
        simpa using this
      have hr2 := World.rangeAt_setCells_same wr w.heap.size 0 tabL hth
      have hlv := run_loadVar_mid (P := Try.prog) (wr.setCells w.heap.size 0 tabL) w.heap.size 0 121 tabL _ hr2 Try.underlying121 rfl hi
      have HX := hid (HE.out.setCells (Nat.le_refl _) tabL 0)
      obtain ⟨w9, hw9⟩ : ∃ w9, w9 = wr.setCells w.heap.size 0 tabL := ⟨_, rfl⟩
      rw [← hw9] at hst hlv HX
      have HLV := hid hlv
      have HRG := hid hrg
      clear hlv hr2 hrg hth h1 hw9
      go_wp2_with (with_reducible refine wpList_load_mid rfl _ _ rfl w.heap.size 0 rfl tabL _ HRG.out Try.underlying121 rfl hi ?_)
      exact bodyPost_ret (v := .agg tabL.toArray) (by rw [results_cell1 Try.results88]; exact HLV.out) rfl ⟨rfl, HX.out⟩

/-- A slice of bytes, with its place. -/
structure BS where
  a : Option Addr
  g : Nat
  o : Nat
  c : Nat
  bs : List UInt8
def encBS (x : BS) : List Value := [.slice x.a x.bs.length x.c]
theorem encBS_len (x : BS) : (encBS x).length = 1 := rfl
structure OkBS (w : World) (x : BS) : Prop where
  r : RdS encB 1 w x.a x.g x.o x.bs
  c : x.bs.length ≤ x.c
  m : x.c ≤ maxLen
theorem OkBS.below {w w' : World} {x : BS} (h : OkBS w x) (hb : Below w.heap.size w w') : OkBS w' x := ⟨h.r.below hb, h.c, h.m⟩
theorem sizeBS : ∀ W, (sizeOf 22).run Try.prog W = .ok 1 W := fun W => by kernel_rfl
theorem RdBS {w : World} {a : Option Addr} {g off : Nat} {l : List BS} (h : RdS encBS 1 w a g off l) {k : Nat} {x : BS} (hk : l[k]? = some x) : w.cell? ⟨g, off + k, none⟩ = some (.slice x.a x.bs.length x.c) := by
  have := h.cells k x hk 0 _ rfl
  simpa using this
theorem indexBS {w : World} {a : Option Addr} {g off : Nat} {l : List BS} (h : RdS encBS 1 w a g off l) {i : Nat} (hi : i < l.length) (cap : Nat) (W : World) :
    (Instr.indexAt 55 (.slice a l.length cap) (.int .i64 i)).run Try.prog W = .ok (.pointer (some ⟨g, off + i, none⟩)) W := by
  have := h.index (P := Try.prog) Try.underlying55 sizeBS hi cap W
  simpa using this
/-- The sum's step at a byte, and at a half byte. -/
def halfI (v : Int) : Int := bits .xor .u32 (v / 16) (tabI (v % 16).toNat)
def byteI (v : Int) (c : UInt8) : Int := halfI (halfI (bits .xor .u32 v c.toNat))
def crcI (l : List UInt8) : Int := bits .xor .u32 4294967295 (l.foldl byteI 4294967295)
theorem halfI_range (v : Int) : 0 ≤ halfI v ∧ halfI v ≤ 4294967295 := bits_u32 .xor (v / 16) (tabI (v % 16).toNat)
theorem crcI_range (l : List UInt8) : 0 ≤ crcI l ∧ crcI l ≤ 4294967295 := bits_u32 .xor 4294967295 (l.foldl byteI 4294967295)
theorem foldB_range : ∀ (l : List UInt8) (v : Int), 0 ≤ v → v ≤ 4294967295 → 0 ≤ l.foldl byteI v ∧ l.foldl byteI v ≤ 4294967295
  | [], v, h0, h1 => ⟨h0, h1⟩
  | c :: r, v, h0, h1 => foldB_range r _ (halfI_range _).1 (halfI_range _).2
theorem and15 (v : Int) (h0 : 0 ≤ v) (h1 : v ≤ 4294967295) : bits .and .u32 v 15 = ((v % 16).toNat : Int) := by
  have h := bits_mask .u32 32 (by decide) (fun n h0 h1 => by simp [IntKind.wrap, IntKind.signed, IntKind.bits]; omega) 4 (by decide) v h0 (by omega)
  have e : (2 : Int) ^ 4 - 1 = 15 := rfl
  rw [e] at h
  rw [h]
  omega
theorem store_tab (w : World) : ∃ w2, (storeCells ⟨w.heap.size, 0, none⟩ tabL).run Try.prog (w.alloc (.cells #[.int .u32 0, .int .u32 0, .int .u32 0, .int .u32 0, .int .u32 0, .int .u32 0, .int .u32 0, .int .u32 0, .int .u32 0, .int .u32 0, .int .u32 0, .int .u32 0, .int .u32 0, .int .u32 0, .int .u32 0, .int .u32 0] 121)) = .ok () w2 ∧ Ext w w2 ∧ (∀ j, j < 16 → w2.cell? ⟨w.heap.size, j, none⟩ = some (.int .u32 (tabI j))) ∧ w.heap.size < w2.heap.size := by
  have hh : (w.alloc (.cells #[.int .u32 0, .int .u32 0, .int .u32 0, .int .u32 0, .int .u32 0, .int .u32 0, .int .u32 0, .int .u32 0, .int .u32 0, .int .u32 0, .int .u32 0, .int .u32 0, .int .u32 0, .int .u32 0, .int .u32 0, .int .u32 0] 121)).heap[w.heap.size]? = some (.cells #[.int .u32 0, .int .u32 0, .int .u32 0, .int .u32 0, .int .u32 0, .int .u32 0, .int .u32 0, .int .u32 0, .int .u32 0, .int .u32 0, .int .u32 0, .int .u32 0, .int .u32 0, .int .u32 0, .int .u32 0, .int .u32 0] 121 (0, 0)) := heap_alloc_new w _
  have hth : (w.alloc (.cells #[.int .u32 0, .int .u32 0, .int .u32 0, .int .u32 0, .int .u32 0, .int .u32 0, .int .u32 0, .int .u32 0, .int .u32 0, .int .u32 0, .int .u32 0, .int .u32 0, .int .u32 0, .int .u32 0, .int .u32 0, .int .u32 0] 121)).there w.heap.size 0 16 := fun j hj => by
    refine ⟨?_, by simp only [World.frozen?, hh]; simp⟩
    have hz : (tabN 0)[j]? = some (.int .u32 0) := by rw [tabN_get 0 j hj]; simp
    rw [tabN_0] at hz
    simp only [World.cell?, hh, Nat.zero_add, Option.isSome_none, Bool.false_eq_true, if_false]
    rw [← Array.getElem?_toList, hz]
    rfl
  have hln : tabL.length = 16 := by simp [tabL]
  have := run_storeCells_cells (P := Try.prog) w.heap.size 0 tabL 0 (w.alloc (.cells #[.int .u32 0, .int .u32 0, .int .u32 0, .int .u32 0, .int .u32 0, .int .u32 0, .int .u32 0, .int .u32 0, .int .u32 0, .int .u32 0, .int .u32 0, .int .u32 0, .int .u32 0, .int .u32 0, .int .u32 0, .int .u32 0] 121)) (fun j hj => by simp only [Nat.add_zero]; exact (hth j (by rw [hln] at hj; exact hj)).1) (fun j hj => by simp only [Nat.add_zero]; exact (hth j (by rw [hln] at hj; exact hj)).2) (fun v hv => by
    obtain ⟨j, _, rfl⟩ := List.mem_map.1 hv
    rfl)
  have hr2 := World.rangeAt_setCells_same _ w.heap.size 0 tabL (by rw [hln]; exact hth)
  have hE : Ext w ((w.alloc (.cells #[.int .u32 0, .int .u32 0, .int .u32 0, .int .u32 0, .int .u32 0, .int .u32 0, .int .u32 0, .int .u32 0, .int .u32 0, .int .u32 0, .int .u32 0, .int .u32 0, .int .u32 0, .int .u32 0, .int .u32 0, .int .u32 0] 121)).setCells w.heap.size 0 tabL) := ((Ext.refl w).alloc _).setCells (Nat.le_refl _) _ _
  refine ⟨_, this, hE, fun j hj => ?_, ?_⟩
  · have := hr2 j (.int .u32 (tabI j)) (by unfold tabL; rw [List.getElem?_map, List.getElem?_range hj]; rfl)
    simpa using this
  · have h2 := (setCells_still w.heap.size tabL 0 (w.alloc (.cells #[.int .u32 0, .int .u32 0, .int .u32 0, .int .u32 0, .int .u32 0, .int .u32 0, .int .u32 0, .int .u32 0, .int .u32 0, .int .u32 0, .int .u32 0, .int .u32 0, .int .u32 0, .int .u32 0, .int .u32 0, .int .u32 0] 121))).2.2.2
    first | (rw [h2]; simp) | (simp only [Nat.add_zero]; rw [h2]; simp)
set_option maxRecDepth 100000 in
set_option maxHeartbeats 1600000 in
theorem CrcSum_any (w : World) (a : Option Addr) (g off cap : Nat) (l : List BS) (h : RdS encBS 1 w a g off l) (hO : ∀ x ∈ l, OkBS w x) (hl : l.length ≤ 1000) (hb : ∀ x ∈ l, x.bs.length ≤ 1073741824) :
    Calls Try.prog 73 #[.slice a l.length cap] w fun e w' => e = .returned (.int .u32 (crcI (l.flatMap (fun x => x.bs)))) ∧ Ext w w' := by
  go_enter Try.func73, Try.ntmps73
  go_wp2_with fail
  refine (reckon_any w).mono ?_
  rintro e w1 ⟨rfl, hE1⟩
  obtain ⟨w2, hst, hE2, htab, hsz⟩ := store_tab w1
  have HE := hid (hE1.trans hE2)
  have HT := hid htab
  have h2 := h.below HE.out.below
  have hO2 := fun x hx => (hO x hx).below HE.out.below
  have HO2 := hid hO2
  have HB := hid hb
  clear h hO hE1 hE2 htab hb hO2
  go_wp2_with fail
  generalize w1.heap.size = b at *
  clear hst
  go_loop [4, 12] (fun s4 s12 => ∃ k : Nat, k ≤ l.length ∧ s12 = .int .i64 k ∧ s4 = .int .u32 (((l.take k).flatMap (fun x => x.bs)).foldl byteI 4294967295)) (fun _ s12 => l.length - (intOf s12).toNat)
  case atStart => exact ⟨0, Nat.zero_le _, rfl, rfl⟩
  case round =>
    obtain ⟨k, hk, rfl, rfl⟩ := hrel
    by_cases hlt : k < l.length
    · have hx := indexBS h2 hlt cap
      have hget : l[k]? = some l[k] := by simp [hlt]
      have c0 := RdBS h2 hget
      have hmem := List.mem_of_getElem? hget
      have hxl := HB.out _ hmem
      have hxo := (HO2.out _ hmem).r
      have HTK := hid (show (l.take (k + 1)).flatMap (fun x => x.bs) = (l.take k).flatMap (fun x => x.bs) ++ l[k].bs by
        rw [List.take_succ_eq_append_getElem hlt, List.flatMap_append]; simp)
      generalize l[k] = x at *
      have HRG := hid (fun j => foldB_range ((l.take k).flatMap (fun x => x.bs) ++ x.bs.take j) 4294967295 (by omega) (by omega))
      have HXO := hid hxo
      clear hget hmem hxo
      go_wp2_with fail
      go_loop [4, 18] (fun s4 s18 => ∃ j : Nat, j ≤ x.bs.length ∧ s18 = .int .i64 j ∧ s4 = .int .u32 (((l.take k).flatMap (fun x => x.bs) ++ x.bs.take j).foldl byteI 4294967295)) (fun _ s18 => x.bs.length - (intOf s18).toNat)
      case atStart => exact ⟨0, Nat.zero_le _, rfl, by simp⟩
      case round =>
        obtain ⟨j, hj, rfl, rfl⟩ := hrel
        by_cases hjl : j < x.bs.length
        · have hy := indexB HXO.out hjl x.c
          have hgy : x.bs[j]? = some x.bs[j] := by simp [hjl]
          have d0 := RdB HXO.out hgy
          obtain ⟨hv0, hv1⟩ := HRG.out j
          have HNX := hid (show ((l.take k).flatMap (fun x => x.bs) ++ x.bs.take (j + 1)).foldl byteI 4294967295 = byteI (((l.take k).flatMap (fun x => x.bs) ++ x.bs.take j).foldl byteI 4294967295) x.bs[j] by
            rw [List.take_succ_eq_append_getElem hjl, ← List.append_assoc, List.foldl_append]; rfl)
          generalize x.bs[j] = c at *
          generalize (((l.take k).flatMap (fun x => x.bs) ++ x.bs.take j).foldl byteI 4294967295) = v at *
          have hcc : IntKind.u32.wrap (c.toNat : Int) = (c.toNat : Int) := by
            have := c.toNat_lt
            simp [IntKind.wrap, IntKind.signed, IntKind.bits]
            omega
          obtain ⟨p0, p1⟩ := bits_u32 .xor v (c.toNat : Int)
          have HBY := hid (show byteI v c = halfI (halfI (bits .xor .u32 v c.toNat)) from rfl)
          have ha1 := and15 _ p0 p1
          generalize hv1 : bits .xor .u32 v c.toNat = v1 at *
          have hj1 : (v1 % 16).toNat < 16 := by omega
          have e1 := HT.out _ hj1
          have HH1 := hid (show halfI v1 = bits .xor .u32 (v1 / 16) (tabI (v1 % 16).toNat) from rfl)
          generalize (v1 % 16).toNat = j1 at *
          obtain ⟨q0, q1⟩ := bits_u32 .xor (v1 / 16) (tabI j1)
          have ha2 := and15 _ q0 q1
          rw [HH1.out] at HBY
          generalize hv2 : bits .xor .u32 (v1 / 16) (tabI j1) = v2 at *
          have hj2 : (v2 % 16).toNat < 16 := by omega
          have e2 := HT.out _ hj2
          have HH2 := hid (show halfI v2 = bits .xor .u32 (v2 / 16) (tabI (v2 % 16).toNat) from rfl)
          generalize (v2 % 16).toNat = j2 at *
          clear hgy
          go_wp2_with fail
          go_round
          case rel => exact ⟨j + 1, by omega, by go_num, by rw [HNX.out, HBY.out, HH2.out]⟩
          case measure => simp [intOf]; omega
        · have hje : x.bs.take j = x.bs := List.take_of_length_le (by omega)
          rw [hje, ← HTK.out]
          clear hje
          go_wp2_with fail
          go_round
          case rel => exact ⟨k + 1, by omega, by go_num, rfl⟩
          case measure => simp [intOf]; omega
    · have hk' : l.take k = l := List.take_of_length_le (by omega)
      rw [hk']
      have HCR := hid (show crcI (l.flatMap (fun x => x.bs)) = bits .xor .u32 4294967295 ((l.flatMap (fun x => x.bs)).foldl byteI 4294967295) from rfl)
      clear hk'
      go_wp2_with fail
      go_ret
      exact ⟨by rw [HCR.out]; rfl, HE.out⟩
end Go.Proofs.Ytopabknlgmihpaa
