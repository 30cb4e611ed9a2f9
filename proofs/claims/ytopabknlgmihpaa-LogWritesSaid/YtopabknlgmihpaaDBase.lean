/- What is common: integers, strings as keys, arguments that were there read as before. -/
import Derived.Test.YtopabknlgmihpaaSlice
import Derived.Test.YtopabknlgmihpaaMaps
import Derived.Test.YtopabknlgmihpaaOpen
import Derived.Test.YtopabknlgmihpaaChecked
import Derived.Test.YtopabknlgmihpaaRows
import Derived.DeepKeys4
import Derived.OneCell
import Derived.StringKeys
import Derived.ProofKit
import Derived.OpenShut
import Derived.Lib.SmallJoins
namespace Go.Proofs.Ytopabknlgmihpaa
open Go Go.RowKit Go.ChangeShapes Go.WideShapes Go.ChangeAt Go.MapKept Go.ChangeMaps Go.Maps

def I64 (x : Int) : Prop := -9223372036854775808 ≤ x ∧ x ≤ 9223372036854775807
theorem I64.wf {x : Int} (h : I64 x) : (Lit.int .i64 x).wf = true := WalkArith.wf_i64 h
theorem wf_I64 {x : Int} (h : (Lit.int .i64 x).wf = true) : I64 x := by
  simp [Lit.wf, IntKind.min, IntKind.max, IntKind.signed, IntKind.bits] at h
  unfold I64
  omega
theorem Try.laidOut : laidOutB Try.prog = true := by kernel_rfl
theorem own : ownKnob Try.prog.godebug = none := by kernel_rfl
theorem cellsInt : Try.prog.cellsOf 3 = 1 := by kernel_rfl
abbrev SKey : Type := {s : ByteArray // s.size ≤ maxLen}
def vS (s : SKey) : Value := .string s.1
theorem keyS : KeyT Try.prog 9 vS := ⟨string_keyed Try.underlying9, fun x => ⟨_, WideMaps.keyOf_string_mk Try.underlying9 x.2⟩, fun x y h => by unfold vS at h; simp at h; exact Subtype.ext h⟩
section
variable {H : Type} {enc : TypeId × Value → H} {P : Program}
/-- Below: each argument reads as it did. -/
theorem trodAll_below (hl : laidOutB P = true) {W W' : World} (hb : Below W.heap.size W W') : ∀ {ts : List TypeId} {vs : List Value} {ds : List (DataW H)} {p : List MemPlace},
    (∀ t ∈ ts, P.readableRec t = true ∧ t < P.types.size) → DataW.TrodAll enc P W 0 (fun _ => true) true ts vs ds p → DataW.TrodAll enc P W' 0 (fun b => decide (b < W.heap.size)) true ts vs ds p
  | [], _, _, _, _, h => by
    obtain ⟨rfl, rfl, rfl⟩ := trodAll_nil h
    exact trodAll_mk0
  | t :: ts, _, _, _, hr, h => by
    obtain ⟨v, vs, d, ds, p, q, rfl, rfl, rfl, h1, h2⟩ := trodAll_cons h
    have hlt : ∀ x ∈ p, x.block < W.heap.size := by obtain ⟨m, hm⟩ := h1; exact DataW.trod_lt m _ _ _ hm
    have ⟨r1, r2⟩ := hr t (List.mem_cons_self)
    exact trodAll_cons_mk (Below.trod hl r1 r2 h1 hb hlt) (trodAll_below hl hb (fun t ht => hr t (List.mem_cons_of_mem _ ht)) h2)
end
theorem zeroInt (w : World) : (zeroValue 3).run Try.prog w = .ok (.int .i64 0) w := by kernel_rfl
theorem sizeInt : ∀ W, (sizeOf 3).run Try.prog W = .ok 1 W := fun W => by kernel_rfl
def encI (x : Int) : List Value := [.int .i64 x]
theorem encI_len (x : Int) : (encI x).length = 1 := rfl
theorem bcell {W w1 : World} (hb : Below W.heap.size W w1) : (∀ b o, b < W.heap.size → w1.cell? ⟨b, o, none⟩ = W.cell? ⟨b, o, none⟩) ∧ (∀ b o, b < W.heap.size → w1.frozen? ⟨b, o, none⟩ = W.frozen? ⟨b, o, none⟩) :=
  ⟨fun b o h => hb.cell (p := ⟨b, o, none⟩) h, fun b o h => hb.frozen (p := ⟨b, o, none⟩) h⟩
end Go.Proofs.Ytopabknlgmihpaa
