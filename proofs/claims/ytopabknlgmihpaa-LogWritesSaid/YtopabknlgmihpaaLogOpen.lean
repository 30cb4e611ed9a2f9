/- Slices of bytes that came in. -/
import Derived.Test.YtopabknlgmihpaaDiskActOpen
import Derived.Test.YtopabknlgmihpaaCrc
namespace Go.Proofs.Ytopabknlgmihpaa
open Go Go.RowKit Go.ChangeShapes Go.WideShapes Go.ChangeAt

theorem trod_bs {H : Type} {ec : TypeId × Value → H} {w : World} {base : Nat} {spare : Nat → Bool} {held : Bool} (n : Nat) (cs : List Value) (x : DataW H × List MemPlace) (h : DataW.trod ec Try.prog w base spare held n 22 cs = some x) : ∃ y : BS, cs = encBS y ∧ OkBS w y := by
  obtain ⟨a, g, o, c, L, e, r, l, m, _, _⟩ := trod_rds (enc := encB) (k := 1) (fun _ => True) Try.underlying22 cellsB (fun _ => rfl) (by omega) (fun n cs x h => by obtain ⟨y, hy⟩ := trod_b n cs x h; exact ⟨y, hy, trivial⟩) h
  exact ⟨⟨a, g, o, c, L⟩, e, r, l, m⟩
end Go.Proofs.Ytopabknlgmihpaa
