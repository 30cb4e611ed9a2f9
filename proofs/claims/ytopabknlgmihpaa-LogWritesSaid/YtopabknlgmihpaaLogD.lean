/- The log's forms: an iterator over a file's records. -/
import Derived.Test.YtopabknlgmihpaaLogC
import Derived.Test.YtopabknlgmihpaaRegionI
import Derived.RangeFuncNested
import Derived.RangeFuncBound
import Derived.RangeFuncCalls
import Derived.RangeFuncLeaves
import Derived.Shelf.Abstract
import Derived.Shelf.RegionOpen
import Derived.OwnWalkIn
import Derived.TacticsInMore
import Derived.LoopNIn
import Derived.LoopIn
namespace Go.Proofs.Ytopabknlgmihpaa
open Go Go.RowKit Go.MapKept Go.ChangeMaps Go.Maps

/-- A slice of bytes, cut at both ends. -/
theorem rds_sub {w : World} {a : Option Addr} {g off : Nat} {l : List UInt8} (h : RdS encB 1 w a g off l) {i j : Nat} (hij : i ≤ j) (hj : j ≤ l.length) {cap : Nat} (hc : l.length ≤ cap) (hm : cap ≤ maxLen) :
    ∃ x : BS, x.bs = (l.drop i).take (j - i) ∧ (∀ W, (Instr.slice 22 (.slice a l.length cap) (some (.int .i64 i)) (some (.int .i64 j)) none).run Try.prog W = .ok (.slice x.a x.bs.length x.c) W) ∧ (∀ W, RdS encB 1 W a g off l → OkBS W x) ∧ (x.bs ≠ [] → x.g = g) := by
  have hln : ((l.drop i).take (j - i)).length = j - i := by rw [List.length_take, List.length_drop]; omega
  have hs : ∀ W, (Instr.slice 22 (.slice a l.length cap) (some (.int .i64 i)) (some (.int .i64 j)) none).run Try.prog W = .ok (.slice (if cap = i then a else a.map (·.add (i * 1))) (j - i) (cap - i)) W := fun W => by
    have h1 : i ≤ cap := by omega
    have h2 : j ≤ cap := by omega
    simp [Instr.slice, run_underlying Try.underlying22, sizeB, Instr.sliceBounds, Instr.sliceBound, asIntOf, hij, h2]
  refine ⟨⟨if cap = i then a else a.map (·.add (i * 1)), g, off + i, cap - i, (l.drop i).take (j - i)⟩, rfl, fun W => by rw [hs W]; simp only [hln], fun W hW => ⟨?_, by simp only [hln]; omega, by simp only; omega⟩, fun _ => rfl⟩
  by_cases hne : (l.drop i).take (j - i) = []
  · exact ⟨fun h0 => absurd hne h0, fun h0 => absurd hne h0, by simp only [hne]; exact RdAt.nil⟩
  · have hlt : i < l.length := by
      rcases Nat.lt_or_ge i l.length with h1 | h1
      · exact h1
      · exact absurd (by rw [List.drop_eq_nil_of_le h1]; simp) hne
    have hln0 : l ≠ [] := by intro e0; subst e0; simp at hlt
    have ha := hW.some hln0
    subst ha
    refine ⟨fun _ => ?_, fun _ => hW.lt hln0, ?_⟩
    · rw [if_neg (by omega)]
      simp [add_lit]
    · intro k x hx jj y hy
      rw [List.getElem?_take] at hx
      split at hx
      · rw [List.getElem?_drop] at hx
        have := hW.cells (i + k) x hx jj y hy
        rw [show off + i + k * 1 + jj = off + (i + k) * 1 + jj by omega]
        exact this
      · cases hx
/-- A slice of bytes, cut at its front. -/
theorem rds_front {w : World} {a : Option Addr} {g off : Nat} {l : List UInt8} (h : RdS encB 1 w a g off l) {i : Nat} (hj : i ≤ l.length) {cap : Nat} (hc : l.length ≤ cap) (hm : cap ≤ maxLen) :
    ∃ x : BS, x.bs = l.drop i ∧ (∀ W, (Instr.slice 22 (.slice a l.length cap) (some (.int .i64 i)) none none).run Try.prog W = .ok (.slice x.a x.bs.length x.c) W) ∧ (∀ W, RdS encB 1 W a g off l → OkBS W x) ∧ (x.bs ≠ [] → x.g = g) := by
  obtain ⟨x, hx, hr, ho, hg⟩ := rds_sub h (i := i) (j := l.length) hj (Nat.le_refl _) hc hm
  have hxe : x.bs = l.drop i := by rw [hx, List.take_of_length_le (by rw [List.length_drop]; omega)]
  refine ⟨x, hxe, fun W => ?_, ho, hg⟩
  have := hr W
  rw [← this]
  have h1 : i ≤ cap := by omega
  simp [Instr.slice, run_underlying Try.underlying22, sizeB, Instr.sliceBounds, Instr.sliceBound, asIntOf, hj, hc]
/-- What is no record: nothing, or fewer bytes than the first one asks. -/
def Stuck (p : List UInt8) : Prop := p = [] ∨ ∃ c r, p = c :: r ∧ c.toNat ≤ 200 ∧ r.length < 4 + c.toNat
/-- A file's bytes: whole records' forms, and what is none. -/
structure FileB (b : List UInt8) (rs : List (List UInt8)) : Prop where
  at_ : ∃ part, b = rs.flatMap formB ++ part ∧ Stuck part
  small : ∀ p ∈ rs, p.length ≤ 200
  len : b.length ≤ 1073741824
  cnt : rs.length ≤ 1000
def offB (rs : List (List UInt8)) (k : Nat) : Nat := ((rs.take k).flatMap formB).length
theorem offB_succ {rs : List (List UInt8)} {k : Nat} (h : k < rs.length) : offB rs (k + 1) = offB rs k + (5 + rs[k].length) := by
  unfold offB
  rw [List.take_succ_eq_append_getElem h, List.flatMap_append, List.length_append]
  simp [formB_len]
  omega
theorem FileB.drop {b : List UInt8} {rs : List (List UInt8)} (h : FileB b rs) {k : Nat} (hk : k < rs.length) : ∃ rest, b.drop (offB rs k) = formB rs[k] ++ rest := by
  obtain ⟨part, hb, _⟩ := h.at_
  have h1 : rs.flatMap formB = (rs.take k).flatMap formB ++ (formB rs[k] ++ (rs.drop (k + 1)).flatMap formB) := by
    have : rs = rs.take k ++ (rs[k] :: rs.drop (k + 1)) := by rw [← List.drop_eq_getElem_cons hk, List.take_append_drop]
    conv => lhs; rw [this]
    rw [List.flatMap_append, List.flatMap_cons]
  refine ⟨(rs.drop (k + 1)).flatMap formB ++ part, ?_⟩
  rw [hb, h1, List.append_assoc]
  unfold offB
  rw [List.drop_left]
  simp
theorem FileB.off_le {b : List UInt8} {rs : List (List UInt8)} (h : FileB b rs) (k : Nat) : offB rs k ≤ b.length := by
  obtain ⟨part, hb, _⟩ := h.at_
  have h1 : (rs.flatMap formB).length = offB rs k + ((rs.drop k).flatMap formB).length := by
    unfold offB
    rw [← List.length_append, ← List.flatMap_append, List.take_append_drop]
  rw [hb, List.length_append]
  omega
theorem FileB.stuck {b : List UInt8} {rs : List (List UInt8)} (h : FileB b rs) : Stuck (b.drop (offB rs rs.length)) := by
  obtain ⟨part, hb, hs⟩ := h.at_
  unfold offB
  rw [hb, List.take_length, List.drop_left]
  exact hs
theorem FileB.le {b : List UInt8} {rs : List (List UInt8)} (h : FileB b rs) {k : Nat} (hk : k < rs.length) : offB rs k + (5 + rs[k].length) ≤ b.length := by
  have := h.off_le (k + 1)
  rw [offB_succ hk] at this
  exact this
/-- Of a record's form, at its place: the number, the sum, the record. -/
theorem FileB.parts {b : List UInt8} {rs : List (List UInt8)} (h : FileB b rs) {k : Nat} (hk : k < rs.length) :
    ((b.drop (offB rs k)).take 1 = [UInt8.ofNat rs[k].length]) ∧ ((b.drop (offB rs k + 1)).take 4 = fourB (crcI ([UInt8.ofNat rs[k].length] ++ rs[k]))) ∧ ((b.drop (offB rs k + 5)).take rs[k].length = rs[k]) := by
  obtain ⟨rest, hr⟩ := h.drop hk
  have h1 : ∀ n, b.drop (offB rs k + n) = (formB rs[k] ++ rest).drop n := fun n => by rw [← hr, List.drop_drop]
  refine ⟨?_, ?_, ?_⟩
  · rw [hr]; unfold formB; simp
  · rw [h1]; unfold formB fourB; simp
  · rw [h1]; unfold formB fourB; simp
set_option maxRecDepth 100000 in
set_option maxHeartbeats 3200000 in
theorem forms_any (w : World) (a : Option Addr) (n cap : Nat) : Calls Try.prog 74 #[.slice a n cap] w fun e w' => e = .returned (.func (.func 89) #[] #[.pointer (some ⟨w.heap.size, 0, none⟩)]) ∧ w' = w.alloc (.cells #[.slice a n cap] 22) := by
  go_enter Try.func74, Try.ntmps74
  go_wp2
  go_ret
  exact ⟨rfl, rfl⟩
end Go.Proofs.Ytopabknlgmihpaa
