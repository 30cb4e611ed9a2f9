/- A disk's names, in their order. -/
import Derived.Test.YtopabknlgmihpaaDiskC
import Derived.Test.YtopabknlgmihpaaLaidS
import Derived.Sort.KeysCollected
namespace Go.Proofs.Ytopabknlgmihpaa
open Go Go.RowKit Go.MapKept Go.ChangeMaps Go.Maps Go.Sort Go.Shelf Go.WideShapes

def encN (x : List UInt8) : List Value := [encStr x]
theorem encN_len (x : List UInt8) : (encN x).length = 1 := rfl
theorem flatN (l : List (List UInt8)) : l.flatMap encN = l.map encStr := by
  induction l with
  | nil => rfl
  | cons a r ih => rw [List.flatMap_cons, ih]; rfl
def keyL (x : SKey) : List UInt8 := x.1.data.toList
theorem keyL_inj {x y : SKey} (h : keyL x = keyL y) : x = y := by
  unfold keyL at h
  have h1 : x.1.data = y.1.data := Array.toList_inj.1 h
  have h2 : x.1 = y.1 := by
    cases hx : x.1
    cases hy : y.1
    rw [hx, hy] at h1
    simp only at h1
    rw [h1]
  exact Subtype.ext h2
theorem vS_keyL (x : SKey) : encStr (keyL x) = vS x := by
  unfold encStr keyL vS
  rfl
/-- The keys of a list, sorted. -/
def namesOf {β : Type} (l : List (SKey × β)) : List (List UInt8) := (l.map (fun x => keyL x.1)).mergeSort leB
theorem names_map (l : List (SKey × Nat)) (fs : Nat → FileS) : namesOf (l.map (fun x => (x.1, (fs x.2).bs, (fs x.2).sure))) = namesOf l := by
  unfold namesOf
  rw [List.map_map]
  rfl

def R0 {H : Type} (_ : Value) : Option (DataW H × List MemPlace) := some (.nil, [])
theorem keys_own {β : Type} {ev : β → Value} {w : World} {b : Nat} {l : List (SKey × β)} (h : MapIs vS ev w b l) (hl : l.length ≤ 1000) :
    ∃ D0 : DataW Unit, w.ownsMap Try.prog 9 R0 b l.length D0 ∧ (strKeys D0).Perm (l.map (fun x => keyL x.1)) ∧ Maps.size D0 = l.length := by
  obtain ⟨es, clock, hb, hs, he⟩ := h
  have hlen := MapIs.len_eq he
  have hrd : ∀ x ∈ es.toList, ∃ s : SKey, x.key = vS s ∧ WideElems.rd Try.prog 9 (R0 (H := Unit)) x = some (.string (keyL s), .nil) := fun x hx => by
    obtain ⟨i, hi⟩ := List.getElem?_of_mem hx
    have h1 : (es.toList.map (fun e => (e.key, e.val)))[i]? = some (x.key, x.val) := by rw [List.getElem?_map, hi]; rfl
    rw [he, List.getElem?_map] at h1
    cases hp : l[i]? with
    | none => rw [hp] at h1; cases h1
    | some p =>
      rw [hp] at h1
      simp only [Option.map_some, Option.some.injEq, Prod.mk.injEq] at h1
      refine ⟨p.1, h1.1.symm, ?_⟩
      unfold WideElems.rd
      rw [← h1.1]
      unfold vS
      rw [WideMaps.keyOf_string_mk Try.underlying9 p.1.2]
      rfl
  refine ⟨_, ⟨es, clock, hb, ⟨by rw [hlen]; unfold maxLen; omega, hs, fun x hx => ?_⟩, by omega, rfl⟩, ?_, ?_⟩
  · obtain ⟨s, _, h2⟩ := hrd x hx
    exact ⟨_, h2⟩
  · unfold strKeys
    refine ((sorted_perm _).map _).trans ?_
    rw [List.map_map]
    have : es.toList.map ((fun p : Lit × DataW Unit => strOf p.1) ∘ WideElems.rg Try.prog 9 R0) = l.map (fun x => keyL x.1) := by
      apply List.ext_getElem?
      intro i
      have h1 := congrArg (fun z => z[i]?) he
      simp only [List.getElem?_map] at h1 ⊢
      cases hx : es.toList[i]? with
      | none =>
        rw [hx] at h1
        cases hp : l[i]? with
        | none => rfl
        | some p => rw [hp] at h1; cases h1
      | some x =>
        rw [hx] at h1
        cases hp : l[i]? with
        | none => rw [hp] at h1; cases h1
        | some p =>
          rw [hp] at h1
          simp only [Option.map_some, Option.some.injEq, Prod.mk.injEq] at h1
          obtain ⟨s, hs1, hs2⟩ := hrd x (List.mem_of_getElem? hx)
          simp only [Option.map_some, Function.comp, WideElems.rg, hs2, Option.getD_some, strOf, Option.some.injEq]
          have : vS s = vS p.1 := hs1.symm.trans h1.1
          have : s = p.1 := keyS.inj _ _ this
          rw [this]
    rw [this]
  · show ((es.toList.map _).foldr DataW.insert []).length = _
    rw [(sorted_perm _).length_eq, List.length_map, Array.length_toList, hlen]

theorem sortsF (m : Nat) : AnyZ.SortsIn Try.prog Try.sortedF_ren Fence.wide m :=
  ⟨fun blk off cap ss W hH hblk hsz => callsIn_wide.2 (AnyM.slices_Sort_string Try.sortF blk off cap ss W hH hblk hsz),
   fun p cap W => callsIn_wide.2 (AnyM.slices_Sort_string_none Try.sortF p cap W)⟩
abbrev KEYS : Nat := 41
theorem Keys_any (mb : Option Nat) (W : World) : Calls Try.prog 41 #[.map mb] W fun e w' => e = .returned (.func (.func 62) #[] #[.pointer (some ⟨W.heap.size, 0, none⟩)]) ∧ w' = W.alloc (.cells #[.map mb] 65) :=
  (callsIn_wide (n := 5)).1 (AnyZ.keys_in Try.keysF Fence.wide 5 trivial rfl mb W)
set_option maxHeartbeats 1000000 in
theorem Sorted_keys {β : Type} {ev : β → Value} (b : Nat) (l : List (SKey × β)) (w : World) (h : MapIs vS ev w b l) (hl : l.length ≤ 1000) :
    Calls Try.prog 40 #[.func (.func 62) #[] #[.pointer (some ⟨w.heap.size, 0, none⟩)]] (w.alloc (.cells #[.map (some b)] 65)) fun e w' => ∃ v, e = .returned v ∧
      Owns w.heap.size 9 encN 1 w' v (namesOf l) ∧ Below w.heap.size w w' := by
  obtain ⟨D0, hown, hperm, hsize⟩ := keys_own h hl
  have hbl := hown.lt
  have hseq : SeqGives Fence.wide 2 Try.prog 62 #[.pointer (some ⟨w.heap.size, 0, none⟩)] encStr (fun ss => ss.Perm (strKeys D0)) (Maps.size D0) (w.alloc (.cells #[.map (some b)] 65)) :=
    AnyZ.keys_gives (ρ := Try.keysF_ren) { Try.keysF with } Fence.wide _ trivial rfl (by omega) w.heap.size b l.length D0 _ (by simp) (by simp) (by
      obtain ⟨es, clock, hb, Ft, hs, hD⟩ := hown
      exact ⟨es, clock, (Below.heap_alloc _ _ b hbl).trans hb, Ft, hs, hD⟩)
  have hc := AnyZ.sorted_in Try.sortedF Fence.wide 5 trivial trivial trivial trivial rfl (by omega) (sortsF _) (enters_of Try.func61 (by kernel_rfl) rfl) 62 #[.pointer (some ⟨w.heap.size, 0, none⟩)] trivial (enters_of Try.func62 (by kernel_rfl) rfl) _ (Maps.size D0) (by rw [hsize]; unfold maxLen; omega) (by rw [hsize]; omega) _ hseq
  refine ((callsIn_wide (n := 5)).1 hc).mono fun e w' ⟨v, ss, he, hS, hrow, _, hb⟩ => ⟨v, he, ?_, ?_⟩
  · have hnm : ss.mergeSort leB = namesOf l := mergeSort_of_perm (hS.trans hperm)
    unfold Owns
    rw [flatN, ← hnm, List.length_mergeSort]
    exact ownsRow_base_a hrow (by simp)
  · exact ((Ext.refl w).alloc _).below.trans (hb.mono (by simp))

set_option maxRecDepth 100000 in
set_option maxHeartbeats 800000 in
theorem DiskNames_any (w : World) (p : Nat) (s : DkS) (h : Dk w p s) (hl : s.l.length ≤ 1000) :
    Calls Try.prog 24 #[.pointer (some ⟨p, 0, none⟩)] w fun e w' => ∃ v, e = .returned v ∧ Owns w.heap.size 9 encN 1 w' v (if s.down then [] else namesOf s.abs.l) ∧ Below w.heap.size w w' := by
  obtain ⟨c0, c1, c2, c3⟩ := h.cells
  have hS := Sorted_keys s.m s.l w h.files hl
  rw [← names_map s.l s.fs] at hS
  have HS := hid hS
  clear hS
  cases hdn : s.down with
  | true =>
    rw [hdn] at c3
    clear h hdn
    go_enter Try.func24, Try.ntmps24
    go_wp2
    go_ret
    exact ⟨_, rfl, Owns.nil _ _ _ _ _, Below.refl _ _⟩
  | false =>
    rw [hdn] at c3
    clear h hdn
    go_enter Try.func24, Try.ntmps24
    go_wp2_with fail
    refine (Keys_any (some s.m) w).mono ?_
    rintro e w1 ⟨rfl, rfl⟩
    go_wp2_with fail
    refine HS.out.mono ?_
    rintro e w2 ⟨v, rfl, hown, hb⟩
    have HO := hid hown
    have HB := hid hb
    clear hown hb
    go_wp2
    go_ret
    exact ⟨_, rfl, HO.out, HB.out⟩

def ReadPost (w : World) (r : List UInt8 × Int) (e : Ending) (w' : World) : Prop := ∃ v, e = .returned (.tuple #[v, .int .i64 r.2]) ∧ OwnB w' v r.1 ∧ (∀ g, v.ownBlock = some g → w.heap.size ≤ g) ∧ Below w.heap.size w w'
def readA (n : SKey) (d : AD) : List UInt8 × Int :=
  if d.down then ([], 15) else match aget d.l n with
  | none => ([], 8)
  | some x => (x.1, 0)
set_option maxRecDepth 100000 in
set_option maxHeartbeats 1600000 in
theorem DiskRead_any (w : World) (p : Nat) (s : DkS) (n : SKey) (h : Dk w p s) (hG : s.abs.Good) :
    Calls Try.prog 16 #[.pointer (some ⟨p, 0, none⟩), .string n.1] w (ReadPost w (readA n s.abs)) := by
  obtain ⟨c0, c1, c2, c3⟩ := h.cells
  have hlk := h.look n true
  simp only [if_true] at hlk
  have hda : s.abs.down = s.down := rfl
  cases hdn : s.down with
  | true =>
    have e1 : readA n s.abs = ([], 15) := by unfold readA; rw [hda, hdn]; rfl
    rw [e1]
    rw [hdn] at c3
    clear h hdn hda hlk e1
    go_enter Try.func16, Try.ntmps16
    go_wp2
    go_ret2
    exact ⟨_, rfl, OwnB.nil _, (fun g hg => by cases hg), Below.refl _ _⟩
  | false =>
    rw [hdn] at c3
    cases hno : aget s.l n with
    | none =>
      have hna : aget s.abs.l n = none := by unfold DkS.abs; rw [abs_get, hno]; rfl
      have hnh : ahas s.l n = false := by rw [ahas_eq, hno]; rfl
      have e1 : readA n s.abs = ([], 8) := by unfold readA; rw [hda, hdn, hna]; rfl
      rw [e1]
      rw [hno, hnh] at hlk
      simp only [Option.map_none, Option.getD_none] at hlk
      clear h hdn hda hno hna hnh e1
      go_enter Try.func16, Try.ntmps16
      go_wp2
      go_ret2
      exact ⟨_, rfl, OwnB.nil _, (fun g hg => by cases hg), Below.refl _ _⟩
    | some e =>
      have hna : aget s.abs.l n = some ((s.fs e).bs, (s.fs e).sure) := by unfold DkS.abs; rw [abs_get, hno]; rfl
      have hnh : ahas s.l n = true := by rw [ahas_eq, hno]; rfl
      have hx : (n, e) ∈ s.l := mem_of_get hno
      have e1 : readA n s.abs = ((s.fs e).bs, 0) := by unfold readA; rw [hda, hdn, hna]; rfl
      have hlen := (hG.len_get hna).2
      have hrm := hG.room.2
      simp only at hlen
      rw [e1]
      rw [hno, hnh] at hlk
      simp only [Option.map_some, Option.getD_some, vP] at hlk
      obtain ⟨x0, x1⟩ := h.ecells hx
      obtain ⟨av, gv, ov, cv, hv, hcv, hrv, hnv⟩ := (h.own _ hx).rd
      simp only at x0 hv hrv
      rw [hv] at x0
      have HC := hid (CloneB_any w av gv ov cv (s.fs e).bs hrv (by omega))
      clear h hdn hda hno hna hnh e1 hv hrv hnv hx
      go_enter Try.func16, Try.ntmps16
      go_wp2_with fail
      refine HC.out.mono ?_
      rintro e0 w2 ⟨v, rfl, hown, hfr, hb⟩
      have HO := hid hown
      have HF := hid hfr
      have HB := hid hb
      clear hown hfr hb
      go_wp2
      go_ret2
      exact ⟨_, rfl, HO.out, HF.out, HB.out⟩
end Go.Proofs.Ytopabknlgmihpaa
