/- The plain law of the index; great; the document's example. -/
import Derived.Test.YtlepfohhfngndaaIndexC
import Derived.Test.YtlepfohhfngndaaRef17
import Derived.Test.YtlepfohhfngndaaRegion
namespace Go.Proofs.Ytlepfohhfngndaa
open Go Go.RowKit Go.MapKept Go.ChangeMaps Go.Maps

theorem setR_congr {l m : List Id} (h : ∀ x, x ∈ l ↔ x ∈ m) : setR l = setR m :=
  strict_ext (setR_strict l) (setR_strict m) (fun x => by rw [setR_mem, setR_mem, h])
theorem maxS_congr {D E : List (Id × CE)} (h : ∀ x, x ∈ D ↔ x ∈ E) : maxS D = maxS E := by
  have h1 := maxS_fold D 0
  have h2 := maxS_fold E 0
  change 0 ≤ maxS D ∧ (∀ x ∈ D, x.2.2 ≤ maxS D) ∧ (maxS D = 0 ∨ ∃ x ∈ D, maxS D = x.2.2) at h1
  change 0 ≤ maxS E ∧ (∀ x ∈ E, x.2.2 ≤ maxS E) ∧ (maxS E = 0 ∨ ∃ x ∈ E, maxS E = x.2.2) at h2
  obtain ⟨a1, a2, a3⟩ := h1
  obtain ⟨b1, b2, b3⟩ := h2
  have c1 : maxS D ≤ maxS E := by
    rcases a3 with a3 | ⟨x, hx, a3⟩
    · omega
    · have := b2 x ((h x).1 hx); omega
  have c2 : maxS E ≤ maxS D := by
    rcases b3 with b3 | ⟨x, hx, b3⟩
    · omega
    · have := a2 x ((h x).2 hx); omega
  omega
theorem adel_drop (l : List (Id × CE)) (i : Id) : adel l i = dropE l i := rfl
theorem good_iff {w : World} {b : Nat} {s : IxS} (h : Ix w b s) (c : Cmd) (but : Id) (x : Id × CE) : GoodX s c but x ↔ x ∈ s.la ∧ meetsE c but x = true := by
  have hn := h.all.nodup
  unfold GoodX meetsE
  constructor
  · rintro ⟨h1, h2, h3⟩
    exact ⟨mem_of_aget h1, by simp [h2, h3]⟩
  · rintro ⟨h1, h2⟩
    simp only [Bool.and_eq_true, Bool.not_eq_true', decide_eq_false_iff_not] at h2
    exact ⟨aget_some hn h1, h2.1, h2.2⟩
/-- What Deps hands out is the document's. -/
theorem deps_eq {w : World} {b : Nat} {s : IxS} (h : Ix w b s) (c : Cmd) (but : Id) {D : List (Id × CE)} (hD : ∀ x : Id × CE, x ∈ D ↔ GoodX s c but x) : setR (D.map (·.1)) = setR (metI s.la c but) := by
  refine setR_congr (fun i => ?_)
  unfold metI
  simp only [List.mem_map, List.mem_filter]
  constructor
  · rintro ⟨x, hx, rfl⟩
    exact ⟨x, (good_iff h c but x).1 ((hD x).1 hx), rfl⟩
  · rintro ⟨x, hx, rfl⟩
    exact ⟨x, (hD x).2 ((good_iff h c but x).2 hx), rfl⟩
theorem seqE_filter (c : Cmd) (but : Id) (l : List Ent) : ∀ n : Int, l.foldl (seqStep c but) n = (l.filter (meetsE c but)).foldl (fun n x => if n < x.2.2 then x.2.2 else n) n := by
  induction l with
  | nil => intro n; rfl
  | cons a r ih =>
    intro n
    rw [List.foldl_cons, ih]
    by_cases h : meetsE c but a = true
    · rw [List.filter_cons_of_pos h, List.foldl_cons]
      congr 1
      unfold seqStep
      simp [h]
    · rw [List.filter_cons_of_neg h]
      congr 1
      unfold seqStep
      simp [h]
theorem seq_eq {w : World} {b : Nat} {s : IxS} (h : Ix w b s) (c : Cmd) (but : Id) {D : List (Id × CE)} (hD : ∀ x : Id × CE, x ∈ D ↔ GoodX s c but x) : maxS D = seqE s.la c but := by
  unfold seqE
  rw [seqE_filter]
  exact maxS_congr (fun x => by rw [hD, good_iff h, List.mem_filter])

/-- What is done with an index. -/
structure IAct where
  act : Int
  i : Id
  c : Cmd
  seq : Int
def encA (x : IAct) : List Value := [.int .i64 x.act, .int .i64 x.i.r, .int .i64 x.i.n, .int .i64 x.c.kind, .int .i64 x.c.client, .int .i64 x.c.seq, .string x.c.key, .string x.c.val, .int .i64 x.c.rev, .int .i64 x.seq]
theorem encA_len (x : IAct) : (encA x).length = 10 := rfl
theorem sizeA : ∀ W, (sizeOf 56).run Try.prog W = .ok 10 W := fun W => by kernel_rfl
theorem RdA {w : World} {a : Option Addr} {g off : Nat} {l : List IAct} (h : RdS encA 10 w a g off l) {k : Nat} {x : IAct} (hk : l[k]? = some x) : w.cell? ⟨g, off + k * 10, none⟩ = some (.int .i64 x.act) ∧ w.cell? ⟨g, off + k * 10 + 1, none⟩ = some (.int .i64 x.i.r) ∧ w.cell? ⟨g, off + k * 10 + 2, none⟩ = some (.int .i64 x.i.n) ∧ w.cell? ⟨g, off + k * 10 + 3, none⟩ = some (.int .i64 x.c.kind) ∧ w.cell? ⟨g, off + k * 10 + 4, none⟩ = some (.int .i64 x.c.client) ∧ w.cell? ⟨g, off + k * 10 + 5, none⟩ = some (.int .i64 x.c.seq) ∧ w.cell? ⟨g, off + k * 10 + 6, none⟩ = some (.string x.c.key) ∧ w.cell? ⟨g, off + k * 10 + 7, none⟩ = some (.string x.c.val) ∧ w.cell? ⟨g, off + k * 10 + 8, none⟩ = some (.int .i64 x.c.rev) ∧ w.cell? ⟨g, off + k * 10 + 9, none⟩ = some (.int .i64 x.seq) :=
  ⟨h.cells k x hk 0 _ rfl, h.cells k x hk 1 _ rfl, h.cells k x hk 2 _ rfl, h.cells k x hk 3 _ rfl, h.cells k x hk 4 _ rfl, h.cells k x hk 5 _ rfl, h.cells k x hk 6 _ rfl, h.cells k x hk 7 _ rfl, h.cells k x hk 8 _ rfl, h.cells k x hk 9 _ rfl⟩
def greatL (l : List IAct) : Bool := (l.take 60).any (fun x => greatB x.c) || decide (60 < l.length)

set_option maxRecDepth 100000 in
set_option maxHeartbeats 3200000 in
theorem great_any (w : World) (a : Option Addr) (g off cap : Nat) (l : List IAct) (h : RdS encA 10 w a g off l) (hl : l.length ≤ cap) (hcm : cap ≤ maxLen) :
    Calls Try.prog 20 #[.slice a l.length cap] w fun e w' => e = .returned (.bool (greatL l)) ∧ Ext w w' := by
  unfold maxLen at hcm
  go_enter Try.func20, Try.ntmps20
  go_wp2
  go_loopw [3] (fun s3 wr => ∃ k : Nat, k ≤ l.length ∧ k ≤ 60 ∧ s3 = .int .i64 k ∧ (∀ x ∈ l.take k, greatB x.c = false) ∧ Ext w wr) (fun s3 _ => 60 - (intOf s3).toNat)
  case atStart => exact ⟨0, Nat.zero_le _, Nat.zero_le _, rfl, fun x hx => by simp at hx, Ext.refl _⟩
  case round =>
    obtain ⟨k, hk, hk6, rfl, hno, hE⟩ := hrel
    by_cases hlt : k < l.length
    · by_cases h60 : k < 60
      · have hx := h.index (P := Try.prog) Try.underlying47 sizeA hlt cap
        have hget : l[k]? = some l[k] := by simp [hlt]
        obtain ⟨c0, c1, c2, c3, c4, c5, c6, c7, c8, c9⟩ := RdA (h.below hE.below) hget
        have htk : l.take (k + 1) = l.take k ++ [l[k]] := List.take_succ_eq_append_getElem hlt
        have hmem : l[k] ∈ l.take 60 := by
          rw [List.mem_take_iff_getElem]
          exact ⟨k, by omega, rfl⟩
        generalize l[k] = x at *
        have hG := fun W => Great_any x.c W
        have HE := hid hE
        cases hg : greatB x.c
        case false =>
          rw [hg] at hG
          have HN : Hid (∀ y ∈ l.take (k + 1), greatB y.c = false) := fun y hy => by
            rw [htk] at hy
            rcases List.mem_append.1 hy with hy | hy
            · exact hno y hy
            · rw [List.mem_singleton] at hy; subst hy; exact hg
          have HG := hid hG
          clear hno hmem htk hg hG h hE
          go_wp2_with fail
          refine (HG.out _).mono ?_
          rintro e w2 ⟨rfl, hE2⟩
          go_wp2
          go_roundw
          case rel => exact ⟨k + 1, by omega, by omega, by go_num, HN.out, HE.out.trans hE2⟩
          case measure => simp [intOf]; omega
        case true =>
          rw [hg] at hG
          have HN : Hid (greatL l = true) := by
            show greatL l = true
            unfold greatL
            rw [Bool.or_eq_true]
            exact Or.inl (List.any_eq_true.2 ⟨x, hmem, hg⟩)
          have HG := hid hG
          clear hno hmem htk hg hG h hE
          go_wp2_with fail
          refine (HG.out _).mono ?_
          rintro e w2 ⟨rfl, hE2⟩
          go_wp2
          go_ret
          exact ⟨by rw [HN.out]; rfl, HE.out.trans hE2⟩
      · have hk0 : k = 60 := by omega
        subst hk0
        have HN : Hid (greatL l = true) := by
          show greatL l = true
          unfold greatL
          rw [Bool.or_eq_true]
          exact Or.inr (by simpa using hlt)
        clear hno h
        go_wp2
        go_ret
        exact ⟨by rw [HN.out]; simp [hlt], hE⟩
    · have hk' : l.take 60 = l := List.take_of_length_le (by omega)
      have hk2 : l.take k = l := List.take_of_length_le (by omega)
      have HN : Hid (greatL l = false) := by
        show greatL l = false
        unfold greatL
        rw [hk', Bool.or_eq_false_iff]
        rw [hk2] at hno
        refine ⟨?_, by simp; omega⟩
        rw [List.any_eq_false]
        intro x hx
        rw [hno x hx]
        simp
      have hle : ¬ 60 < l.length := by omega
      clear hno h hk' hk2
      go_wp2
      go_ret
      exact ⟨by rw [HN.out]; simp [hle]; omega, hE⟩


def idA : Id := ⟨0, 1, by unfold I64; omega, by unfold I64; omega⟩
def idB : Id := ⟨1, 1, by unfold I64; omega, by unfold I64; omega⟩
def idZ : Id := ⟨0, 0, by unfold I64; omega, by unfold I64; omega⟩
def cA : Cmd := ⟨2, 1, 1, ⟨#[97]⟩, ⟨#[]⟩, 0, by unfold I64; omega, by unfold maxLen; decide⟩
def cB : Cmd := ⟨1, 2, 1, ⟨#[98]⟩, ⟨#[]⟩, 0, by unfold I64; omega, by unfold maxLen; decide⟩
def cG : Cmd := ⟨1, 3, 1, ⟨#[97]⟩, ⟨#[]⟩, 0, by unfold I64; omega, by unfold maxLen; decide⟩
theorem awMeetA : meetsE cG idZ (idA, (cA, 3)) = true := by
  unfold meetsE meetB keysB
  simp only [ByteArray.toList_eq]
  decide
theorem awMeetB : meetsE cG idZ (idB, (cB, 4)) = false := by
  unfold meetsE meetB keysB
  simp only [ByteArray.toList_eq]
  decide
theorem awLa : adel (adel ([] : List (Id × CE)) idA ++ [(idA, (cA, 3))]) idB ++ [(idB, (cB, 4))] = [(idA, (cA, 3)), (idB, (cB, 4))] := by
  have : idA ≠ idB := by decide
  simp [adel, this]
theorem awDeps : setR (metI [(idA, (cA, 3)), (idB, (cB, 4))] cG idZ) = [idA] := by
  unfold metI
  rw [List.filter_cons_of_pos awMeetA, List.filter_cons_of_neg (by rw [awMeetB]; simp)]
  rfl
theorem awSeq : seqE [(idA, (cA, 3)), (idB, (cB, 4))] cG idZ = 3 := by
  unfold seqE
  simp only [List.foldl_cons, List.foldl_nil, seqStep, awMeetA, awMeetB]
  decide


set_option maxRecDepth 100000 in
set_option maxHeartbeats 3200000 in
theorem IndexAwake (w : World) : Calls Try.prog 22 #[] w fun e w' => e = .returned (.bool true) ∧ Below w.heap.size w w' := by
  go_enter Try.func22, Try.ntmps22
  go_wp2_with fail
  refine (IxNew_any _).mono ?_
  rintro e w1 ⟨b, s, rfl, hI, hla, hlk, hlc, hlw, hE, hF⟩
  have hv := Inv.start hla hlk hlc hlw
  have hlt := hI.lt
  have hE2 : Ext w1 ((w1.alloc (.cells #[.int .i64 0, .int .i64 1] 28)).alloc (.cells #[.int .i64 1, .int .i64 1] 28)) := ((Ext.refl w1).alloc _).alloc _
  have hI2 := hI.ext hE2
  have hb2 : Below w.heap.size w ((w1.alloc (.cells #[.int .i64 0, .int .i64 1] 28)).alloc (.cells #[.int .i64 1, .int .i64 1] 28)) := (hE.trans hE2).below
  have hs1 := hE.size
  clear hI hE hE2
  go_wp2_with fail
  refine (IxPut_any _ b s idA cA 3 hI2 hv).mono ?_
  rintro e w2 ⟨rfl, s2, hI3, hv2, hla2, hlk2, hF2, hk2⟩
  have a0 : w2.cell? ⟨w1.heap.size, 0, none⟩ = some (.int .i64 0) := hk2.cell (fun h => by have := hlt _ h; omega) (by simp)
  have a1 : w2.cell? ⟨w1.heap.size, 1, none⟩ = some (.int .i64 1) := hk2.cell (fun h => by have := hlt _ h; omega) (by simp)
  have b0 : w2.cell? ⟨w1.heap.size + 1, 0, none⟩ = some (.int .i64 1) := hk2.cell (fun h => by have := hlt _ h; omega) (by simp)
  have b1 : w2.cell? ⟨w1.heap.size + 1, 1, none⟩ = some (.int .i64 1) := hk2.cell (fun h => by have := hlt _ h; omega) (by simp)
  have hb3 : Below w.heap.size w w2 := hb2.trans (hk2.below hb2.size (fun g hg => hF g hg))
  have hF3 : ∀ g ∈ s2.blocks b, g < w1.heap.size ∨ w1.heap.size + 2 ≤ g := fun g hg => by
    rcases hF2 g hg with h | h
    · exact Or.inl (hlt g h)
    · simp at h; omega
  have hF4 : ∀ g ∈ s2.blocks b, w.heap.size ≤ g := fun g hg => by
    rcases hF2 g hg with h | h
    · exact hF g h
    · simp at h; omega
  rw [hla] at hla2
  rw [hlk] at hlk2
  clear hI2 hv hk2 hb2 hF2 hla hlk hlc hlw
  go_wp2_with fail
  refine (IxPut_any _ b s2 idB cB 4 hI3 hv2).mono ?_
  rintro e w3 ⟨rfl, s3, hI4, hv3, hla3, hlk3, hF5, hk3⟩
  replace a0 := hk3.cell (fun h => by have := hF3 _ h; omega) a0
  replace a1 := hk3.cell (fun h => by have := hF3 _ h; omega) a1
  have hb4 : Below w.heap.size w w3 := hb3.trans (hk3.below hb3.size (fun g hg => hF4 g hg))
  have hla4 : s3.la = [(idA, (cA, 3)), (idB, (cB, 4))] := by rw [hla3, hla2]; exact awLa
  have hlk4 : s3.lk.length ≤ 200 := by simp at hlk2; omega
  have hs3 : w1.heap.size < w3.heap.size := World.block_lt_of_cell? _ _ a0
  clear hI3 hv2 hk3 hb3 hF3 hF4 hF5 hla2 hla3 hlk2 hlk3 b0 b1 hF hlt
  have hI5 := hI4.ext ((Ext.refl w3).alloc (.cells #[.int .i64 1, .int .i64 3, .int .i64 1, .string ⟨#[97]⟩, .string ⟨#[]⟩, .int .i64 0] 49))
  go_wp2_with fail
  refine (Deps_any _ b s3 cG idZ hI5 hv3 hlk4 (by rw [hla4]; simp)).mono ?_
  rintro e w4 ⟨v, D, rfl, hown, hD, hb5⟩
  rw [deps_eq hI5 cG idZ hD, hla4, awDeps] at hown
  obtain ⟨aO, gO, oO, cO, rfl, hcO, hrO, hnO⟩ := Owns.rd encId_len hown
  clear hnO
  have hI6 := hI5.below hb5
  have hs4 := hb5.size
  simp at hs4
  have a0' : w4.cell? ⟨w1.heap.size, 0, none⟩ = some (.int .i64 0) := by rw [hb5.cell (p := ⟨w1.heap.size, 0, none⟩) (by simp; omega)]; exact (((Ext.refl w3).alloc _).keeps (S := fun _ => False)).cell (fun h => h) a0
  have a1' : w4.cell? ⟨w1.heap.size, 1, none⟩ = some (.int .i64 1) := by rw [hb5.cell (p := ⟨w1.heap.size, 1, none⟩) (by simp; omega)]; exact (((Ext.refl w3).alloc _).keeps (S := fun _ => False)).cell (fun h => h) a1
  have g0 : w4.cell? ⟨w3.heap.size, 0, none⟩ = some (.int .i64 1) := by rw [hb5.cell (p := ⟨w3.heap.size, 0, none⟩) (by simp)]; simp
  have g1 : w4.cell? ⟨w3.heap.size, 1, none⟩ = some (.int .i64 3) := by rw [hb5.cell (p := ⟨w3.heap.size, 1, none⟩) (by simp)]; simp
  have g2 : w4.cell? ⟨w3.heap.size, 2, none⟩ = some (.int .i64 1) := by rw [hb5.cell (p := ⟨w3.heap.size, 2, none⟩) (by simp)]; simp
  have g3 : w4.cell? ⟨w3.heap.size, 3, none⟩ = some (.string ⟨#[97]⟩) := by rw [hb5.cell (p := ⟨w3.heap.size, 3, none⟩) (by simp)]; simp
  have g4 : w4.cell? ⟨w3.heap.size, 4, none⟩ = some (.string ⟨#[]⟩) := by rw [hb5.cell (p := ⟨w3.heap.size, 4, none⟩) (by simp)]; simp
  have g5 : w4.cell? ⟨w3.heap.size, 5, none⟩ = some (.int .i64 0) := by rw [hb5.cell (p := ⟨w3.heap.size, 5, none⟩) (by simp)]; simp
  have hb6 : Below w.heap.size w w4 := hb4.trans ((((Ext.refl w3).alloc _).below.trans (hb5.mono (by simp))).mono hb4.size)
  have hx := hrO.index (P := Try.prog) (i := 0) Try.underlying40 sizeId (by simp) cO
  have r0 := RdI0 hrO (k := 0) (by simp)
  have r1 := RdI1 hrO (k := 0) (by simp)
  have hgO : gO < w4.heap.size := hrO.lt (by simp)
  simp only [List.getElem_cons_zero, Nat.zero_mul, Nat.add_zero, List.length_cons, List.length_nil, Nat.zero_add, Int.ofNat_zero] at hx r0 r1
  have HF : ∀ W, Below w4.heap.size w4 W → W.cell? ⟨w1.heap.size, 0, none⟩ = some (.int .i64 0) ∧ W.cell? ⟨w1.heap.size, 1, none⟩ = some (.int .i64 1) ∧ W.cell? ⟨gO, oO, none⟩ = some (.int .i64 0) ∧ W.cell? ⟨gO, oO + 1, none⟩ = some (.int .i64 1) ∧ W.cell? ⟨w3.heap.size, 0, none⟩ = some (.int .i64 1) ∧ W.cell? ⟨w3.heap.size, 1, none⟩ = some (.int .i64 3) ∧ W.cell? ⟨w3.heap.size, 2, none⟩ = some (.int .i64 1) ∧ W.cell? ⟨w3.heap.size, 3, none⟩ = some (.string ⟨#[97]⟩) ∧ W.cell? ⟨w3.heap.size, 4, none⟩ = some (.string ⟨#[]⟩) ∧ W.cell? ⟨w3.heap.size, 5, none⟩ = some (.int .i64 0) := fun W hW => ⟨(by rw [hW.cell (p := ⟨w1.heap.size, 0, none⟩) (by simp only; omega)]; exact a0'), (by rw [hW.cell (p := ⟨w1.heap.size, 1, none⟩) (by simp only; omega)]; exact a1'), (by rw [hW.cell (p := ⟨gO, oO, none⟩) (by simp only; omega)]; exact r0), (by rw [hW.cell (p := ⟨gO, oO + 1, none⟩) (by simp only; omega)]; exact r1), (by rw [hW.cell (p := ⟨w3.heap.size, 0, none⟩) (by simp only; omega)]; exact g0), (by rw [hW.cell (p := ⟨w3.heap.size, 1, none⟩) (by simp only; omega)]; exact g1), (by rw [hW.cell (p := ⟨w3.heap.size, 2, none⟩) (by simp only; omega)]; exact g2), (by rw [hW.cell (p := ⟨w3.heap.size, 3, none⟩) (by simp only; omega)]; exact g3), (by rw [hW.cell (p := ⟨w3.heap.size, 4, none⟩) (by simp only; omega)]; exact g4), (by rw [hW.cell (p := ⟨w3.heap.size, 5, none⟩) (by simp only; omega)]; exact g5)⟩
  have hSq := fun W (hW : Ix W b s3) => (Seq_any W b s3 cG idZ hW hv3 hlk4 (by rw [hla4]; simp) (fun i e he => by
    rw [hla4] at he
    have := mem_of_aget he
    simp only [List.mem_cons, Prod.mk.injEq, List.not_mem_nil, or_false] at this
    rcases this with ⟨_, rfl⟩ | ⟨_, rfl⟩ <;> decide)).mono (R' := fun e w' => e = .returned (.int .i64 4) ∧ Below W.heap.size W w') (fun e w' ⟨D, he, hD, hb⟩ => ⟨by rw [he, seq_eq hW cG idZ hD, hla4, awSeq]; rfl, hb⟩)
  have hLn := fun W (hW : Ix W b s3) => IxLen_any W b s3 hW
  rw [hla4] at hLn
  have HSQ := hid hSq
  have HLN := hid hLn
  clear hI4 hI5 hown hD hb5 hb4 hrO a0 a1 hSq hLn
  have HFF := hid HF
  have HI6 := hid hI6
  have HB6 := hid hb6
  clear hI6 hb6 hla4 hlk4 hv3 hcO hs1 hs3 hs4 HF r0 r1 g0 g1 g2 g3 g4 g5 a0' a1'
  go_wp2_with fail
  refine wp_region_C (fun W => Below w4.heap.size w4 W) (by kernel_rfl) ?_
  have hC0 : (fun W => Below w4.heap.size w4 W) w4.drew := ((Ext.refl w4).drew).below
  refine takeC (i := 0) (v := ?_) rfl (by kernel_rfl) (by kernel_rfl) (by kernel_rfl) (fun _ _ _ h => h) (by assumption) (Or.inl ⟨?_, ?_⟩) (fun K hK => ?_)
  rotate_left
  · rfl
  · (intro W hW; obtain ⟨a0, a1, r0, r1, g0, g1, g2, g3, g4, g5⟩ := HFF.out W hW; go_simp; first | done | with_reducible rfl)
  (try go_simp)
  refine hK _ _ ?_
  clear hK K
  refine takeC (i := 1) (v := ?_) rfl (by kernel_rfl) (by kernel_rfl) (by kernel_rfl) (fun _ _ _ h => h) (by assumption) (Or.inl ⟨?_, ?_⟩) (fun K hK => ?_)
  rotate_left
  · rfl
  · (intro W hW; obtain ⟨a0, a1, r0, r1, g0, g1, g2, g3, g4, g5⟩ := HFF.out W hW; go_simp; first | done | with_reducible rfl)
  (try go_simp)
  refine hK _ _ ?_
  clear hK K
  refine takeC (i := 2) (v := ?_) rfl (by kernel_rfl) (by kernel_rfl) (by kernel_rfl) (fun _ _ _ h => h) (by assumption) (Or.inl ⟨?_, ?_⟩) (fun K hK => ?_)
  rotate_left
  · rfl
  · (intro W hW; obtain ⟨a0, a1, r0, r1, g0, g1, g2, g3, g4, g5⟩ := HFF.out W hW; go_simp; first | done | with_reducible rfl)
  (try go_simp)
  refine hK _ _ ?_
  clear hK K
  refine takeC (i := 3) (v := ?_) rfl (by kernel_rfl) (by kernel_rfl) (by kernel_rfl) (fun _ _ _ h => h) (by assumption) (Or.inl ⟨?_, ?_⟩) (fun K hK => ?_)
  rotate_left
  · rfl
  · (intro W hW; obtain ⟨a0, a1, r0, r1, g0, g1, g2, g3, g4, g5⟩ := HFF.out W hW; go_simp; first | done | with_reducible rfl)
  (try go_simp)
  refine hK _ _ ?_
  clear hK K
  refine takeC (i := 4) (v := ?_) rfl (by kernel_rfl) (by kernel_rfl) (by kernel_rfl) (fun _ _ _ h => h) (by assumption) (Or.inl ⟨?_, ?_⟩) (fun K hK => ?_)
  rotate_left
  · rfl
  · (intro W hW; obtain ⟨a0, a1, r0, r1, g0, g1, g2, g3, g4, g5⟩ := HFF.out W hW; go_simp; first | done | with_reducible rfl)
  (try go_simp)
  refine hK _ _ ?_
  clear hK K
  refine takeC (i := 5) (v := ?_) rfl (by kernel_rfl) (by kernel_rfl) (by kernel_rfl) (fun _ _ _ h => h) (by assumption) (Or.inl ⟨?_, ?_⟩) (fun K hK => ?_)
  rotate_left
  · rfl
  · (intro W hW; obtain ⟨a0, a1, r0, r1, g0, g1, g2, g3, g4, g5⟩ := HFF.out W hW; go_simp; first | done | with_reducible rfl)
  (try go_simp)
  refine hK _ _ ?_
  clear hK K
  refine takeC (i := 6) (v := ?_) rfl (by kernel_rfl) (by kernel_rfl) (by kernel_rfl) (fun _ _ _ h => h) (by assumption) (Or.inl ⟨?_, ?_⟩) (fun K hK => ?_)
  rotate_left
  · rfl
  · (intro W hW; obtain ⟨a0, a1, r0, r1, g0, g1, g2, g3, g4, g5⟩ := HFF.out W hW; go_simp; first | done | with_reducible rfl)
  (try go_simp)
  refine hK _ _ ?_
  clear hK K
  refine takeC (i := 7) (v := ?_) rfl (by kernel_rfl) (by kernel_rfl) (by kernel_rfl) (fun _ _ _ h => h) (by assumption) (Or.inl ⟨?_, ?_⟩) (fun K hK => ?_)
  rotate_left
  · rfl
  · (intro W hW; obtain ⟨a0, a1, r0, r1, g0, g1, g2, g3, g4, g5⟩ := HFF.out W hW; go_simp; first | done | with_reducible rfl)
  (try go_simp)
  refine hK _ _ ?_
  clear hK K
  refine takeC (i := 8) (v := ?_) rfl (by kernel_rfl) (by kernel_rfl) (by kernel_rfl) (fun _ _ _ h => h) (by assumption) (Or.inl ⟨?_, ?_⟩) (fun K hK => ?_)
  rotate_left
  · rfl
  · (intro W hW; obtain ⟨a0, a1, r0, r1, g0, g1, g2, g3, g4, g5⟩ := HFF.out W hW; go_simp; first | done | with_reducible rfl)
  (try go_simp)
  refine hK _ _ ?_
  clear hK K
  refine takeC (i := 9) (v := ?_) rfl (by kernel_rfl) (by kernel_rfl) (by kernel_rfl) (fun _ _ _ h => h) (by assumption) (Or.inl ⟨?_, ?_⟩) (fun K hK => ?_)
  rotate_left
  · rfl
  · (intro W hW; obtain ⟨a0, a1, r0, r1, g0, g1, g2, g3, g4, g5⟩ := HFF.out W hW; go_simp; first | done | with_reducible rfl)
  (try go_simp)
  refine hK _ _ ?_
  clear hK K
  refine takeC (i := 10) (v := ?_) rfl (by kernel_rfl) (by kernel_rfl) (by kernel_rfl) (fun _ _ _ h => h) (by assumption) (Or.inl ⟨?_, ?_⟩) (fun K hK => ?_)
  rotate_left
  · rfl
  · (intro W hW; obtain ⟨a0, a1, r0, r1, g0, g1, g2, g3, g4, g5⟩ := HFF.out W hW; go_simp; first | done | with_reducible rfl)
  (try go_simp)
  refine hK _ _ ?_
  clear hK K
  refine takeC (i := 11) (v := ?_) rfl (by kernel_rfl) (by kernel_rfl) (by kernel_rfl) (fun _ _ _ h => h) (by assumption) (Or.inl ⟨?_, ?_⟩) (fun K hK => ?_)
  rotate_left
  · rfl
  · (intro W hW; obtain ⟨a0, a1, r0, r1, g0, g1, g2, g3, g4, g5⟩ := HFF.out W hW; go_simp; first | done | with_reducible rfl)
  (try go_simp)
  refine hK _ _ ?_
  clear hK K
  refine takeC (i := 12) (v := ?_) rfl (by kernel_rfl) (by kernel_rfl) (by kernel_rfl) (fun _ _ _ h => h) (by assumption) (Or.inl ⟨?_, ?_⟩) (fun K hK => ?_)
  rotate_left
  · rfl
  · (intro W hW; obtain ⟨a0, a1, r0, r1, g0, g1, g2, g3, g4, g5⟩ := HFF.out W hW; go_simp; first | done | with_reducible rfl)
  (try go_simp)
  refine hK _ _ ?_
  clear hK K
  refine takeC (i := 13) (v := ?_) rfl (by kernel_rfl) (by kernel_rfl) (by kernel_rfl) (fun _ _ _ h => h) (by assumption) (Or.inl ⟨?_, ?_⟩) (fun K hK => ?_)
  rotate_left
  · rfl
  · (intro W hW; obtain ⟨a0, a1, r0, r1, g0, g1, g2, g3, g4, g5⟩ := HFF.out W hW; go_simp; first | done | with_reducible rfl)
  (try go_simp)
  refine hK _ _ ?_
  clear hK K
  refine callC (k := 14) (by kernel_rfl) rfl ?_ (fun K hK => ?_)
  · rfl
  go_simp
  refine (HSQ.out _ (HI6.out.below hC0)).mono ?_
  rintro e w5 ⟨rfl, hb7⟩
  have hC1 : (fun W => Below w4.heap.size w4 W) w5 := hC0.trans (hb7.mono (Nat.le_of_eq rfl))
  clear hC0
  go_wp2
  refine hK _ _ hC1 ?_
  clear hK K
  refine takeC (i := 15) (v := ?_) rfl (by kernel_rfl) (by kernel_rfl) (by kernel_rfl) (fun _ _ _ h => h) (by assumption) (Or.inl ⟨?_, ?_⟩) (fun K hK => ?_)
  rotate_left
  · rfl
  · (intro W hW; obtain ⟨a0, a1, r0, r1, g0, g1, g2, g3, g4, g5⟩ := HFF.out W hW; go_simp; first | done | with_reducible rfl)
  (try go_simp)
  refine hK _ _ ?_
  clear hK K
  refine takeC (i := 16) (v := ?_) rfl (by kernel_rfl) (by kernel_rfl) (by kernel_rfl) (fun _ _ _ h => h) (by assumption) (Or.inl ⟨?_, ?_⟩) (fun K hK => ?_)
  rotate_left
  · rfl
  · (intro W hW; obtain ⟨a0, a1, r0, r1, g0, g1, g2, g3, g4, g5⟩ := HFF.out W hW; go_simp; first | done | with_reducible rfl)
  (try go_simp)
  refine hK _ _ ?_
  clear hK K
  refine takeC (i := 17) (v := ?_) rfl (by kernel_rfl) (by kernel_rfl) (by kernel_rfl) (fun _ _ _ h => h) (by assumption) (Or.inl ⟨?_, ?_⟩) (fun K hK => ?_)
  rotate_left
  · rfl
  · (intro W hW; obtain ⟨a0, a1, r0, r1, g0, g1, g2, g3, g4, g5⟩ := HFF.out W hW; go_simp; first | done | with_reducible rfl)
  (try go_simp)
  refine hK _ _ ?_
  clear hK K
  refine takeC (i := 18) (v := ?_) rfl (by kernel_rfl) (by kernel_rfl) (by kernel_rfl) (fun _ _ _ h => h) (by assumption) (Or.inl ⟨?_, ?_⟩) (fun K hK => ?_)
  rotate_left
  · rfl
  · (intro W hW; obtain ⟨a0, a1, r0, r1, g0, g1, g2, g3, g4, g5⟩ := HFF.out W hW; go_simp; first | done | with_reducible rfl)
  (try go_simp)
  refine hK _ _ ?_
  clear hK K
  refine callC (k := 19) (by kernel_rfl) rfl ?_ (fun K hK => ?_)
  · rfl
  go_simp
  refine (HLN.out _ (HI6.out.below hC1)).mono ?_
  rintro e w6 ⟨rfl, rfl⟩
  go_wp2
  refine hK _ _ hC1 ?_
  clear hK K
  refine takeC (i := 20) (v := ?_) rfl (by kernel_rfl) (by kernel_rfl) (by kernel_rfl) (fun _ _ _ h => h) (by assumption) (Or.inl ⟨?_, ?_⟩) (fun K hK => ?_)
  rotate_left
  · rfl
  · (intro W hW; obtain ⟨a0, a1, r0, r1, g0, g1, g2, g3, g4, g5⟩ := HFF.out W hW; go_simp; first | done | with_reducible rfl)
  (try go_simp)
  refine hK _ _ ?_
  clear hK K
  refine takeC (i := 21) (v := ?_) rfl (by kernel_rfl) (by kernel_rfl) (by kernel_rfl) (fun _ _ _ h => h) (by assumption) (Or.inl ⟨?_, ?_⟩) (fun K hK => ?_)
  rotate_left
  · rfl
  · (intro W hW; obtain ⟨a0, a1, r0, r1, g0, g1, g2, g3, g4, g5⟩ := HFF.out W hW; go_simp; first | done | with_reducible rfl)
  (try go_simp)
  refine hK _ _ ?_
  clear hK K
  refine takeC (i := 22) (v := ?_) rfl (by kernel_rfl) (by kernel_rfl) (by kernel_rfl) (fun _ _ _ h => h) (by assumption) (Or.inl ⟨?_, ?_⟩) (fun K hK => ?_)
  rotate_left
  · rfl
  · (intro W hW; obtain ⟨a0, a1, r0, r1, g0, g1, g2, g3, g4, g5⟩ := HFF.out W hW; go_simp; first | done | with_reducible rfl)
  (try go_simp)
  refine hK _ _ ?_
  clear hK K
  refine doneC (by kernel_rfl) ?_
  go_wp2
  go_ret
  exact ⟨rfl, HB6.out.trans (hC1.mono HB6.out.size)⟩

end Go.Proofs.Ytlepfohhfngndaa
