/- The document's Same, of bytes. -/
import Derived.Test.YtopabknlgmihpaaBytes
namespace Go.Proofs.Ytopabknlgmihpaa
open Go Go.RowKit Go.MapKept Go.ChangeMaps Go.Maps

theorem RdB {w : World} {a : Option Addr} {g off : Nat} {l : List UInt8} (h : RdS encB 1 w a g off l) {k : Nat} {x : UInt8} (hk : l[k]? = some x) : w.cell? ⟨g, off + k, none⟩ = some (.int .u8 x.toNat) := by
  have := h.cells k x hk 0 _ rfl
  simpa [vB] using this
theorem indexB {w : World} {a : Option Addr} {g off : Nat} {l : List UInt8} (h : RdS encB 1 w a g off l) {i : Nat} (hi : i < l.length) (cap : Nat) (W : World) :
    (Instr.indexAt 22 (.slice a l.length cap) (.int .i64 i)).run Try.prog W = .ok (.pointer (some ⟨g, off + i, none⟩)) W := by
  have := h.index (P := Try.prog) Try.underlying22 sizeB hi cap W
  simpa using this

set_option maxRecDepth 100000 in
set_option maxHeartbeats 1600000 in
theorem RefSame_any (w : World) (a : Option Addr) (g off cap : Nat) (l : List UInt8) (a' : Option Addr) (g' off' cap' : Nat) (m : List UInt8) (h : RdS encB 1 w a g off l) (h' : RdS encB 1 w a' g' off' m) (hl : l.length ≤ 70368744177664) (hm : m.length ≤ 70368744177664) :
    Calls Try.prog 18 #[.slice a l.length cap, .slice a' m.length cap'] w fun e w' => e = .returned (.bool (decide (l = m))) ∧ Ext w w' := by
  by_cases hlm : l.length = m.length
  · have hlm' : ((l.length : Int) != (m.length : Int)) = false := by rw [hlm]; simp
    have HLM := hid hlm
    go_enter Try.func18, Try.ntmps18
    clear hlm
    go_wp2
    go_loopw [5] (fun s5 wr => ∃ k : Nat, k ≤ l.length ∧ s5 = .int .i64 k ∧ l.take k = m.take k ∧ Ext w wr) (fun s5 _ => l.length - (intOf s5).toNat)
    case atStart => exact ⟨0, Nat.zero_le _, rfl, by simp, Ext.refl _⟩
    case round =>
      obtain ⟨k, hk, rfl, hno, hb⟩ := hrel
      by_cases hlt : k < l.length
      · have hltm : k < m.length := by have := HLM.out; omega
        have hx := indexB h hlt cap
        have hy := indexB h' hltm cap'
        have hgl : l[k]? = some l[k] := by simp [hlt]
        have hgm : m[k]? = some m[k] := by simp [hltm]
        have c0 := RdB (h.below hb.below) hgl
        have d0 := RdB (h'.below hb.below) hgm
        have hsnoc : l.take (k + 1) = l.take k ++ [l[k]] := List.take_succ_eq_append_getElem hlt
        have hsnoc' : m.take (k + 1) = m.take k ++ [m[k]] := List.take_succ_eq_append_getElem hltm
        generalize l[k] = x at *
        generalize m[k] = y at *
        by_cases hxi : x = y
        · have hd : ((x.toNat : Int) != (y.toNat : Int)) = false := by rw [hxi]; simp
          have HN := hid (show l.take (k + 1) = m.take (k + 1) by rw [hsnoc, hsnoc', hno, hxi])
          have HB := hid hb
          clear hsnoc hsnoc' hxi hno hb hgl hgm
          go_wp2
          go_quiet (fail)
          go_wp2
          go_roundw
          case rel => exact ⟨k + 1, by omega, by go_num, HN.out, HB.out.drewN _⟩
          case measure => simp [intOf]; omega
        · have hd : ((x.toNat : Int) != (y.toNat : Int)) = true := by
            simp
            intro h0
            exact hxi (UInt8.toNat_inj.1 (by omega))
          have HN := hid (show decide (l = m) = false by
            have hne : l ≠ m := fun e0 => by
              subst e0
              rw [hgl] at hgm
              exact hxi (Option.some.inj hgm)
            simpa using hne)
          have HB := hid hb
          clear hsnoc hsnoc' hxi hno hb hgl hgm
          go_wp2
          go_quiet (fail)
          go_wp2
          go_ret
          exact ⟨by rw [HN.out]; rfl, HB.out.drewN _⟩
      · have hk' : l.take k = l := List.take_of_length_le (by omega)
        have hk2 : m.take k = m := List.take_of_length_le (by have := HLM.out; omega)
        rw [hk', hk2] at hno
        have HN := hid (show decide (l = m) = true by simpa using hno)
        have HB := hid hb
        clear hno hk' hk2 hb h h'
        go_wp2
        go_ret
        exact ⟨by rw [HN.out]; rfl, HB.out⟩
  · have hlm' : ((l.length : Int) != (m.length : Int)) = true := by simp; omega
    have HN := hid (show decide (l = m) = false by
      have hne : l ≠ m := fun e0 => hlm (by rw [e0])
      simpa using hne)
    clear hlm h h'
    go_enter Try.func18, Try.ntmps18
    go_wp2
    go_ret
    exact ⟨by rw [HN.out]; rfl, Ext.refl _⟩
end Go.Proofs.Ytopabknlgmihpaa
