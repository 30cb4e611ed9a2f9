/- Bytes and numbers that came in. -/
import Derived.Test.YtopabknlgmihpaaBytes
namespace Go.Proofs.Ytopabknlgmihpaa
open Go Go.RowKit Go.ChangeShapes Go.WideShapes Go.ChangeAt

theorem cellsB : Try.prog.cellsOf 5 = 1 := by kernel_rfl
theorem wf_U8 {x : Int} (h : (Lit.int .u8 x).wf = true) : 0 ≤ x ∧ x ≤ 255 := by
  simp [Lit.wf, IntKind.min, IntKind.max, IntKind.signed, IntKind.bits] at h
  omega
theorem trod_b {H : Type} {ec : TypeId × Value → H} {w : World} {base : Nat} {spare : Nat → Bool} {held : Bool} (n : Nat) (cs : List Value) (x : DataW H × List MemPlace) (h : DataW.trod ec Try.prog w base spare held n 5 cs = some x) : ∃ y : UInt8, cs = encB y := by
  obtain ⟨a, e, _, wa⟩ := DataW.trod_int Try.underlying5 h
  have h1 := wf_U8 wa
  refine ⟨UInt8.ofNat a.toNat, ?_⟩
  rw [e]
  unfold encB vB
  have : (UInt8.ofNat a.toNat).toNat = a.toNat := by
    rw [UInt8.toNat_ofNat']
    omega
  rw [this, Int.toNat_of_nonneg h1.1]
theorem trod_i {H : Type} {ec : TypeId × Value → H} {w : World} {base : Nat} {spare : Nat → Bool} {held : Bool} (n : Nat) (cs : List Value) (x : DataW H × List MemPlace) (h : DataW.trod ec Try.prog w base spare held n 3 cs = some x) : ∃ y : Int, cs = encI y := by
  obtain ⟨a, e, _, wa⟩ := DataW.trod_int Try.underlying3 h
  exact ⟨a, e⟩
end Go.Proofs.Ytopabknlgmihpaa
