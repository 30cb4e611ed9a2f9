/- Laws of the walk that the kit has in another spelling. -/
import Derived.Test.YtopabknlgmihpaaExt
import Derived.WalkSpells
import Derived.WalkLawsBesides
import Derived.RegionTactic
import Derived.ChangeAlike
import Derived.BigQuiet
import Derived.Deep.QuietTactic
import Derived.StillTailTactics
import Derived.Deep.RegionWith
import Derived.Shelf.SlSortCmp.QuietGrown
namespace Go.Proofs.Ytopabknlgmihpaa
open Go Go.RowKit

/-- A region that draws its order: n operations that leave the world alone, then a chain. -/
theorem region_still_tail {P : Program} {id : Nat} {Q : Exit → Act → World → Prop} {a : Act} {w : World} {l : List Oper} (n : Nat) (hm : P.follows .mixedOrders = true) (hB : Region.lexTailB .any l.toArray n = true)
    (h : wpStill P l.toArray w.drew (fun a' => wpList P l.toArray Q (l.drop n) a' w.drew) (l.take n) a) : (Code.region id l.toArray true).wp P Q a w :=
  wp_region_still_tail n hm hB h
/-- A cell of a block that was there, in every world of the class of 'wp_region_quiet_grown'. -/
theorem gcell {w : World} {b o : Nat} {v : Value} (hb : b < w.heap.size) (h : w.cell? ⟨b, o, none⟩ = some v) : ∀ n os, (Sort.grow (w.drewN n) os).cell? ⟨b, o, none⟩ = some v :=
  fun n os => cell_grown hb h n os
theorem Ext.of_grow (w : World) (n : Nat) (os : Array Obj) : Ext w (Sort.grow (w.drewN n) os) := ⟨n, os, rfl⟩
end Go.Proofs.Ytopabknlgmihpaa
