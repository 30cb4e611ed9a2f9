/- Ids as Lean values, their encoding, the key type of maps by ids. -/
import Derived.Test.YtlepfohhfngndaaMaps
import Derived.Test.YtlepfohhfngndaaChecked
import Derived.DeepKeys4
import Derived.OneCell
namespace Go.Proofs.Ytlepfohhfngndaa
open Go Go.RowKit Go.MapKept Go.ChangeMaps Go.Maps

def I64 (x : Int) : Prop := -9223372036854775808 ≤ x ∧ x ≤ 9223372036854775807
theorem I64.wf {x : Int} (h : I64 x) : (Lit.int .i64 x).wf = true := WalkArith.wf_i64 h
structure Id where
  r : Int
  n : Int
  hr : I64 r
  hn : I64 n
theorem Id.ext' {a b : Id} (h1 : a.r = b.r) (h2 : a.n = b.n) : a = b := by
  cases a; cases b; simp only at h1 h2; subst h1; subst h2; rfl
theorem Id.eq_iff {a b : Id} : a = b ↔ a.r = b.r ∧ a.n = b.n := ⟨fun h => by rw [h]; exact ⟨rfl, rfl⟩, fun h => Id.ext' h.1 h.2⟩
instance : DecidableEq Id := fun a b => decidable_of_iff _ Id.eq_iff.symm
instance : Inhabited Id := ⟨⟨0, 0, by unfold I64; omega, by unfold I64; omega⟩⟩
def encId (i : Id) : List Value := [.int .i64 i.r, .int .i64 i.n]
def vId (i : Id) : Value := .agg #[.int .i64 i.r, .int .i64 i.n]
def vInt (x : Int) : Value := .int .i64 x

theorem Try.laidOut : laidOutB Try.prog = true := by kernel_rfl
theorem rowId : (28 : TypeId) < Try.prog.types.size := of_decide_eq_true (by kernel_rfl)
theorem wideId : (match Try.prog.underlying 28 with | some (.array _ _) | some (.struct _) => true | _ => false) = true := by kernel_rfl
set_option maxRecDepth 100000 in
theorem lawId : Keyed Try.prog 28 := Keyed.of_law (deep_law_laid Try.laidOut (m := 3) (by omega) rowId (by kernel_rfl) wideId)
theorem keyTypeId : Try.prog.keyType 28 = true := by kernel_rfl
theorem cellsId : Try.prog.cellsOf 28 = 2 := by kernel_rfl
theorem cellsInt : Try.prog.cellsOf 3 = 1 := by kernel_rfl
theorem litsId (d : Nat) (i : Id) : Try.prog.keyLits (d + 2) 28 [.int .i64 i.r, .int .i64 i.n] = some [.int .i64 i.r, .int .i64 i.n] := by
  have h1 := i.hr.wf
  have h2 := i.hn.wf
  simp [Program.keyLits, Try.underlying28, Try.underlying3, cellsId, cellsInt, h1, h2]
theorem sizeTypes : ∃ d, Try.prog.types.size + 1 = d + 2 := ⟨Try.prog.types.size - 1, by have h : 1 ≤ Try.prog.types.size := of_decide_eq_true (by kernel_rfl); omega⟩
theorem litId (i : Id) : ∃ l, keyOf Try.prog 28 (vId i) = some l := by
  obtain ⟨d, hd⟩ := sizeTypes
  have hf : (vId i).formed Try.prog 28 = true := by simp [vId, Value.formed, Try.underlying28, cellsId]
  refine ⟨.string (keyBytes [.int .i64 i.r, .int .i64 i.n]), ?_⟩
  unfold keyOf
  rw [Try.underlying28]
  simp only [keyTypeId, hf, hd, Bool.and_self, if_true]
  have : (vId i).cells.toList = [.int .i64 i.r, .int .i64 i.n] := rfl
  rw [this, litsId]
  rfl
theorem keyId : KeyT Try.prog 28 vId := ⟨lawId, litId, fun x y h => by unfold vId at h; simp at h; exact Id.ext' h.1 h.2⟩
end Go.Proofs.Ytlepfohhfngndaa
