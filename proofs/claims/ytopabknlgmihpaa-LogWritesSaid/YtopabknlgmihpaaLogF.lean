/- log.Scan: the records of a file. -/
import Derived.Test.YtopabknlgmihpaaLogE
namespace Go.Proofs.Ytopabknlgmihpaa
open Go Go.RowKit Go.MapKept Go.ChangeMaps Go.Maps
attribute [local go_sem] Oper.semAt_some

theorem infoBS : (Try.prog.info? 22).map (fun i => (i.zero, i.size, i.bytes)) = some (some (.slice none 0 0), 1, 24) := by kernel_rfl
theorem elemBS : ElemT Try.prog 55 22 encBS 1 24 := by
  obtain ⟨i, hi, hz0, hz1, hz2⟩ := info_parts infoBS
  exact ⟨Try.underlying55, ⟨i, _, hi, hz0, hz1, hz2, rfl⟩, encBS_len, by omega, fun x u hu => by simp [encBS] at hu; subst hu; rfl, by omega⟩
/-- A block of cells stays, where what is turned is none. -/
theorem kept_cells {W W' : World} {row : Option Nat} (hg : W.grownBy W' row) (hr : ∀ r, row = some r → ∃ o : Obj, W.heap[r]? = some o ∧ o.isCells = false) {B : Nat} {c : Array Value} {e : TypeId} {fz : Nat × Nat} (h : W.heap[B]? = some (.cells c e fz)) : W'.heap[B]? = W.heap[B]? :=
  hg.block B (Array.getElem?_eq_some_iff.1 h).1 (fun e0 => by
    obtain ⟨o, ho, hc⟩ := hr B e0.symm
    rw [h] at ho
    cases ho
    cases hc)
theorem kept_cell {W W' : World} {row : Option Nat} (hg : W.grownBy W' row) (hr : ∀ r, row = some r → ∃ o : Obj, W.heap[r]? = some o ∧ o.isCells = false) {B o : Nat} {v : Value} (h : W.cell? ⟨B, o, none⟩ = some v) : W'.heap[B]? = W.heap[B]? := by
  cases hb : W.heap[B]? with
  | none => simp [World.cell?, hb] at h
  | some ob =>
    cases ob with
    | cells c e fz => rw [← hb]; exact kept_cells hg hr hb
    | _ => simp [World.cell?, hb] at h
theorem OkBS.kept {W W' : World} {row : Option Nat} (hg : W.grownBy W' row) (hr : ∀ r, row = some r → ∃ o : Obj, W.heap[r]? = some o ∧ o.isCells = false) {x : BS} (h : OkBS W x) : OkBS W' x := by
  refine ⟨h.r.same hg.size (fun hne => ?_), h.c, h.m⟩
  cases hx : x.bs with
  | nil => exact absurd hx hne
  | cons c r => exact kept_cell hg hr (h.r.cells 0 c (by rw [hx]; rfl) 0 _ rfl)
theorem alloc_old (w : World) (o : Obj) {i : Nat} (h : i < w.heap.size) : (w.alloc o).heap[i]? = w.heap[i]? := ((Ext.refl w).alloc o).block i h
/-- append(s, y) at an operation in a fence. -/
theorem wpI_push {α : Type} {enc : α → List Value} {k : Nat} {P : Program} {F : Fence} {n : Nat} {o : Oper} {act : Act} {w : World} {K : Act → World → Prop} {Q : Exit → Act → World → Prop} {t e : TypeId} {bytes : Nat} (T : ElemT P t e enc k bytes) (s x : Operand)
    (ho : o.op = .call { callee := .builtin .append, args := #[s, x], argTypes := #[t, t] }) (base : Nat) (v : Value) (l : List α) (hs : act.eval s = v) (hown : Owns base e enc k w v l)
    (g c : Nat) (y : α) (hx : act.eval x = .slice (some ⟨g, 0, none⟩) 1 c) (hnew : ∀ j u, (enc y)[j]? = some u → w.cell? ((⟨g, 0, none⟩ : Addr).add j) = some u)
    (hlen : l.length ≤ 100000) (hbase : base ≤ w.heap.size)
    (h : ∀ v' w', Owns base e enc k w' v' (l ++ [y]) → w.grownBy w' v.ownBlock → (v'.ownBlock = v.ownBlock ∨ v'.ownBlock = some w.heap.size) → K (act.put o.dst v') w') : o.wpIn F n P act w K Q := by
  obtain ⟨i, z, hi, hz, hsz, hby, hzs⟩ := T.info
  have hb : (l.length + 1) * bytes ≤ 140737488355328 := by
    have h1 := T.small
    have : (l.length + 1) * bytes ≤ 100001 * 1000 := Nat.mul_le_mul (by omega) h1
    omega
  obtain ⟨v', w', hr, h2, h3, _, hat⟩ := run_append_own_at (P := P) w base t o.type e i z k bytes T.under hi hz hsz hby hzs T.pos v l.length _ hown ⟨g, 0, none⟩ 1 c (enc y) (by rw [T.len]; omega) hnew (T.one y) (by unfold maxLen; omega) hb hbase
  have hnd : ∀ c, o.op ≠ .defer c := fun c e0 => by rw [ho] at e0; cases e0
  have hq : Owns base e enc k w' v' (l ++ [y]) := by
    unfold Owns
    rw [List.length_append, List.flatMap_append]
    simpa using h2
  unfold Oper.wpIn
  rw [Oper.semAt_eq _ _ _ hnd]
  refine ⟨fun f hf => ?_, ?_⟩
  · unfold Oper.about at hf
    rw [ho] at hf
    simp [resolve, Target.leads] at hf
  · unfold execOp
    simp only [ho, resolve, invoke, builtin, Sem.run_bind, Sem.run_pure, Result.andThen_ok, List.map_toArray, List.map_cons, List.map_nil, hs, hx, hr]
    exact h v' w' hq h3 hat
theorem KeepsOthers.of_below {W W' : World} (h : Below W.heap.size W W') : KeepsOthers W W' :=
  ⟨h.size, fun k o hk _ => (h.block k (Array.getElem?_eq_some_iff.1 hk).1).trans hk⟩
/-- No panic. -/
def noP (Q : Exit → Act → World → Prop) : Exit → Act → World → Prop
  | .panic _, _, _ => False
  | e, a, w => Q e a w
theorem noP_out {Q : Exit → Act → World → Prop} : ∀ e a w, noP Q e a w → Q e a w := fun e a w h => by
  cases e <;> first | exact h | exact absurd h (fun h => h)
theorem cell2_set {W : World} {H : Nat} {v u : Value} {t1 t2 : TypeId} (h1 : W.heap[H]? = some (.cells #[v] t1 (0, 0))) (h2 : W.heap[H + 1]? = some (.cells #[u] t2 (0, 0))) :
    (W.setCell ⟨H, 0, none⟩ v).cell? ⟨H, 0, none⟩ = some v ∧ (W.setCell ⟨H, 0, none⟩ v).cell? ⟨H + 1, 0, none⟩ = some u ∧ (W.setCell ⟨H, 0, none⟩ v).frozen? ⟨H, 0, none⟩ = false ∧ (W.setCell ⟨H, 0, none⟩ v).frozen? ⟨H + 1, 0, none⟩ = false := by
  have e1 := heap_set_at (o := 0) h1 v
  have e2 : (W.setCell ⟨H, 0, none⟩ v).heap[H + 1]? = some (.cells #[u] t2 (0, 0)) := (Below.heap_setCell W ⟨H, 0, none⟩ v (H + 1) (by simp)).trans h2
  refine ⟨?_, ?_, ?_, ?_⟩
  · simp [World.cell?, e1]
  · simp [World.cell?, e2]
  · simp [World.frozen?, e1]
  · simp [World.frozen?, e2]
def lastE {a : Option Addr} {g off : Nat} {b : List UInt8} {rs : List (List UInt8)} (pre : List (Step a g off b rs)) : Nat := (pre.getLast?.map (fun z => z.1.2)).getD 0
/-- What Scan has collected. -/
structure ScanI (w : World) (H : Nat) {a : Option Addr} {g off : Nat} {b : List UInt8} {rs : List (List UInt8)} (pre : List (Step a g off b rs)) (W : World) (v : Value) (l : List BS) : Prop where
  c1 : W.heap[H]? = some (.cells #[v] 55 (0, 0))
  c2 : W.heap[H + 1]? = some (.cells #[.int .i64 (lastE pre : Nat)] 3 (0, 0))
  own : Owns (H + 3) 22 encBS 1 W v l
  ok : ∀ x ∈ l, OkBS W x ∧ (x.bs ≠ [] → H + 3 ≤ x.g ∧ v.ownBlock ≠ some x.g)
  eq : l.map (fun x => x.bs) = pre.map (fun z => z.1.1.bs)
  bel : Below w.heap.size w W
  sz : H + 3 ≤ W.heap.size
theorem ScanI.kept {w A A' : World} {H : Nat} {row : Option Nat} {a : Option Addr} {g off : Nat} {b : List UInt8} {rs : List (List UInt8)} {pre : List (Step a g off b rs)} {v : Value} {l : List BS} (h : ScanI w H pre A v l) (hg : A.grownBy A' row) (hr : ∀ r, row = some r → w.heap.size ≤ r ∧ ∃ o : Obj, A.heap[r]? = some o ∧ o.isCells = false) : ScanI w H pre A' v l := by
  have hr2 : ∀ r, row = some r → ∃ o : Obj, A.heap[r]? = some o ∧ o.isCells = false := fun r e => (hr r e).2
  refine ⟨(kept_cells hg hr2 h.c1).trans h.c1, (kept_cells hg hr2 h.c2).trans h.c2, h.own.same (fun q hq => ?_), fun x hx => ⟨(h.ok x hx).1.kept hg hr2, (h.ok x hx).2⟩, h.eq, h.bel.grown hg h.bel.size (fun k e => (hr k e).1), Nat.le_trans h.sz hg.size⟩
  rcases h.own.2 with ⟨h1, _⟩ | ⟨g', cap, cur, h1, _, h2, _⟩
  · rw [h1] at hq; cases hq
  · rw [h1] at hq
    cases hq
    exact kept_cells hg hr2 h2
theorem ScanI.own_from {w : World} {H B : Nat} {a : Option Addr} {g off : Nat} {b : List UInt8} {rs : List (List UInt8)} (hB : w.heap.size ≤ B) : OwnFrom B (fun (pre : List (Step a g off b rs)) W => ∃ v l, ScanI w H pre W v l) := fun pre A A' row hs hg hr => by
  obtain ⟨v, l, h⟩ := hs
  exact ⟨v, l, h.kept hg (fun r e => ⟨Nat.le_trans hB (hr r e).1, (hr r e).2⟩)⟩
theorem setCell_id {W : World} {p : Nat} {v : Value} {e : TypeId} {fz : Nat × Nat} (h : W.heap[p]? = some (.cells #[v] e fz)) : W.setCell ⟨p, 0, none⟩ v = W := by
  have h1 : (W.setCell ⟨p, 0, none⟩ v).heap = W.heap := by
    apply Array.ext_getElem?
    intro i
    by_cases hi : i = p
    · subst hi
      rw [heap_set_at h v, h]
      rfl
    · exact Below.heap_setCell W ⟨p, 0, none⟩ v i hi
  have h2 : W.setCell ⟨p, 0, none⟩ v = { W with heap := (W.setCell ⟨p, 0, none⟩ v).heap } := rfl
  rw [h2, h1]
theorem results_cell2 {fn : Func} {p q : Tmp} {t u : TypeId} (h : fn.results = #[.cell p t, .cell q u]) (tmps : Array Value) (P : Program) (w : World) :
    (results fn tmps).run P w = ((asAddr (tmps.getD p undef)).run P w).andThen fun a w₁ => ((loadVar t a).run P w₁).andThen fun x w₂ => ((asAddr (tmps.getD q undef)).run P w₂).andThen fun b w₃ => ((loadVar u b).run P w₃).andThen fun y w₄ => .ok (.tuple #[x, y]) w₄ := by
  simp only [results, h]
  simp [Sem.run_bind, Result.andThen]
theorem lastE_take {a : Option Addr} {g off cap : Nat} {b : List UInt8} {rs : List (List UInt8)} {L : List (Step a g off b rs)} (hS : StepB a g off cap b rs L) : lastE L = offB rs rs.length := by
  unfold lastE
  rw [List.getLast?_eq_getElem?]
  have hl := hS.len
  cases hz : L[L.length - 1]? with
  | none =>
    have : L.length = 0 := by
      have := List.getElem?_eq_none_iff.1 hz
      omega
    rw [← hl, this]
    simp [offB]
  | some z =>
    have h1 := (List.getElem?_eq_some_iff.1 hz).1
    have := (hS.at_ _ z hz).2.1
    simp only [Option.map_some, Option.getD_some]
    rw [this, ← hl]
    congr 1
    omega
theorem rs_of {a : Option Addr} {g off cap : Nat} {b : List UInt8} {rs : List (List UInt8)} {L : List (Step a g off b rs)} (hS : StepB a g off cap b rs L) : L.map (fun z => z.1.1.bs) = rs := by
  apply List.ext_getElem?
  intro i
  rw [List.getElem?_map]
  cases hz : L[i]? with
  | none =>
    have h1 := List.getElem?_eq_none_iff.1 hz
    rw [hS.len] at h1
    exact (List.getElem?_eq_none h1).symm
  | some z => exact (hS.at_ i z hz).1.symm
set_option maxRecDepth 100000 in
set_option maxHeartbeats 3200000 in
theorem Scan_any (w : World) (a : Option Addr) (g off cap : Nat) (b : List UInt8) (rs : List (List UInt8)) (hr : RdS encB 1 w a g off b) (hF : FileB b rs) (hc : b.length ≤ cap) (hm : cap ≤ maxLen) :
    Calls Try.prog 55 #[.slice a b.length cap] w fun e w' => ∃ v l, e = .returned (.tuple #[v, .int .i64 (offB rs rs.length : Nat)]) ∧ Owns (w.heap.size + 3) 22 encBS 1 w' v l ∧ (∀ x ∈ l, OkBS w' x ∧ (x.bs ≠ [] → w.heap.size ≤ x.g)) ∧ l.map (fun x => x.bs) = rs ∧ Below w.heap.size w w' := by
  refine (callsIn_wide (n := 9)).1 ?_
  refine callsIn_of_wp_marks Try.func55 rfl trivial ?_ rfl
  simp only [Try.ntmps55, List.size_toArray, List.length_cons, List.length_nil, Nat.reduceAdd, Nat.reduceSub, Array.replicate_succ, Array.replicate_zero, List.push_toArray, List.append_toArray, List.nil_append, List.cons_append]
  obtain ⟨L, hS⟩ := stepB_of hr hF hc hm
  have HS := hid hS
  have HF := hid hF
  have HR := hid hr
  clear hS hF hr
  gi_wp2
  refine ⟨trivial, (callsIn_wide.2 (forms_any _ a b.length cap)).mono ?_⟩
  rintro e w3 ⟨rfl, hw3⟩
  have hE3 : Ext w w3 := by rw [hw3]; exact (((Ext.refl w).alloc _).alloc _).alloc _
  have hsz3 : w3.heap.size = w.heap.size + 3 := by rw [hw3]; simp
  have hb1 : w3.heap[w.heap.size]? = some (.cells #[.slice none 0 0] 55 (0, 0)) := by
    rw [hw3, alloc_old _ _ (by simp; omega), alloc_old _ _ (by simp)]; exact heap_alloc_new w _
  have hb2 : w3.heap[w.heap.size + 1]? = some (.cells #[.int .i64 0] 3 (0, 0)) := by
    rw [hw3, alloc_old _ _ (by simp)]
    have := heap_alloc_new (w.alloc (.cells #[.slice none 0 0] 55)) (.cells #[.int .i64 0] 3)
    rwa [World.size_alloc] at this
  have hb3 : w3.heap[w.heap.size + 2]? = some (.cells #[.slice a b.length cap] 22 (0, 0)) := by
    rw [hw3]
    have := heap_alloc_new ((w.alloc (.cells #[.slice none 0 0] 55)).alloc (.cells #[.int .i64 0] 3)) (.cells #[.slice a b.length cap] 22)
    rwa [World.size_alloc, World.size_alloc] at this
  have hH : ((w.alloc (.cells #[.slice none 0 0] 55)).alloc (.cells #[.int .i64 0] 3)).heap.size = w.heap.size + 2 := by simp
  rw [hH]
  clear hw3 hH
  have hr3 := HR.out.below hE3.below
  have hcell : w3.cell? ⟨w.heap.size + 2, 0, none⟩ = some (.slice a b.length cap) := by simp [World.cell?, hb3]
  have hglt : b ≠ [] → g < w.heap.size := fun hn => HR.out.lt hn
  have h0 : ∃ v l, ScanI w w.heap.size ([] : List (Step a g off b rs)) w3 v l := ⟨_, [], ⟨hb1, hb2, Owns.nil _ _ _ _ _, (fun x hx => by cases hx), rfl, hE3.below, by omega⟩⟩
  have HB0 := hid hE3.below
  have HH0 := hid h0
  have HC := hid hcell
  have HR3 := hid hr3
  clear hb1 hb2 hb3 hE3 hcell hr3 h0
  gi_wp2
  refine wpIn_rangeFunc_ownF (n := 9) rfl (by omega) (gf := 89) (lb := #[.pointer (some ⟨w.heap.size + 2, 0, none⟩)]) rfl trivial (enters_of Try.func89 (by kernel_rfl) rfl)
    (forms_stops w3 (fun i => i = w.heap.size + 2 ∨ (b ≠ [] ∧ i = g)) _ (w.heap.size + 2) a g off cap b rs L (Or.inl rfl) (by omega) HC.out HR3.out (fun hn => Or.inr ⟨hn, rfl⟩) HF.out hc hm HS.out)
    (fun h k => h.trans k) (fun W l o o' hl hlo _ _ => ⟨by simp, fun i hi _ => World.putObj_heap_other (by
      rcases hi with rfl | ⟨hn, rfl⟩
      · omega
      · have := hglt hn; omega)⟩) (Below.refl _ _) (fun _ => rfl)
    (fun pre W => ∃ v l, ScanI w w.heap.size pre W v l) (fun _ _ _ => False)
    (ScanI.own_from (by omega)) (fun _ _ _ _ _ hs _ _ => hs) HH0.out
    (fun x => { tmps := #[.slice a b.length cap, undef, .pointer (some ⟨w.heap.size, 0, none⟩), .pointer (some ⟨w.heap.size + 1, 0, none⟩), .slice x.1.1.a x.1.1.bs.length x.1.1.c, .int .i64 x.1.2, .slice a b.length cap, .func (.func 89) #[] #[.pointer (some ⟨w.heap.size + 2, 0, none⟩)], .slice x.1.1.a x.1.1.bs.length x.1.1.c, .int .i64 x.1.2, undef, undef, undef, undef, undef, undef, undef, undef], defers := [] }) ?assign ?body ?done ?stop
  case assign =>
    intro l x W K hK
    dsimp only [encsB]
    gi_wp2
    exact hK
  case body =>
    rintro ll pre ⟨⟨x, ex⟩, hz⟩ W ⟨v, l, hI⟩ hlen
    simp only
    have hx := hz.2
    simp only at hx
    obtain ⟨k, hk1, hk2⟩ := hz.1
    simp only at hk1 hk2
    clear hk2
    have hxs := HF.out.small x.bs (List.mem_of_getElem? hk1)
    have hlR : RdS encB 1 W a g off b := HR.out.below hI.bel
    have hOK := hx W hlR
    have HI := hid hI
    have HOK := hid hOK
    have d1 : W.cell? ⟨w.heap.size, 0, none⟩ = some v := by simp [World.cell?, hI.c1]
    have HD1 := hid (fun W' (hW : Below W.heap.size W W') => show W'.cell? ⟨w.heap.size, 0, none⟩ = some v by
      rw [hW.cell (p := ⟨w.heap.size, 0, none⟩) (Array.getElem?_eq_some_iff.1 HI.out.c1).1]; exact d1)
    clear hx hk1 hlR hOK hI d1
    gi_wp2
    refine wp_region_I (fun W' => W'.cell? ⟨w.heap.size, 0, none⟩ = some v) 5 (by kernel_rfl) ?_
    have hB0 : Below W.heap.size W W.drew := ((Ext.refl W).drew).below
    have hC0 : (fun W' => W'.cell? ⟨w.heap.size, 0, none⟩ = some v) W.drew := HD1.out _ hB0
    refine takeI (i := 0) (v := ?_) rfl (by kernel_rfl) (by kernel_rfl) (by kernel_rfl) (by kernel_rfl) (by kernel_rfl) (fun _ _ _ h => h) (by assumption) ⟨Or.inl ⟨?_, ?_⟩, fun _ => rfl⟩ (fun K hK => ?_)
    rotate_left
    · rfl
    · (intro W hW; (have d1 : W.cell? ⟨w.heap.size, 0, none⟩ = some v := hW); go_simp; first | done | with_reducible rfl)
    (try go_simp)
    refine hK _ _ ?_
    clear hK K
    refine takeI (i := 1) (v := ?_) rfl (by kernel_rfl) (by kernel_rfl) (by kernel_rfl) (by kernel_rfl) (by kernel_rfl) (fun _ _ _ h => h) (by assumption) ⟨Or.inl ⟨?_, ?_⟩, fun _ => rfl⟩ (fun K hK => ?_)
    rotate_left
    · rfl
    · (intro W hW; (have d1 : W.cell? ⟨w.heap.size, 0, none⟩ = some v := hW); go_simp; first | done | with_reducible rfl)
    (try go_simp)
    refine hK _ _ ?_
    clear hK K
    refine callI (k := 2) (by kernel_rfl) rfl ?_ (fun K hK => ?_)
    · rfl
    go_simp
    refine ⟨trivial, (CallsIn.inRound ll (callsIn_wide.2 (CloneB_any W.drew x.a x.g x.o x.c x.bs (HOK.out.below hB0).r (by omega)))).mono ?_⟩
    rintro e w4 ⟨v4, rfl, ho4, hf4, hb4⟩
    obtain ⟨y, rfl, hy, hoky, hyg⟩ := ho4.bs
    have hB1 : Below W.heap.size W w4 := Below.trans hB0 (hb4.mono (Nat.le_refl _))
    have hB2 : Below W.heap.size W (w4.alloc (.cells #[.slice y.a y.bs.length y.c] 22)) := Below.trans hB1 (((Ext.refl w4).alloc _).below.mono (Below.size hB1))
    have hC1 : (fun W' => W'.cell? ⟨w.heap.size, 0, none⟩ = some v) w4 := HD1.out _ hB1
    have hC2 : (fun W' => W'.cell? ⟨w.heap.size, 0, none⟩ = some v) (w4.alloc (.cells #[.slice y.a y.bs.length y.c] 22)) := HD1.out _ hB2
    have HY := hid hy
    have HOKY := hid hoky
    have HYF := hid (show y.bs ≠ [] → W.heap.size ≤ y.g from fun hn => by
      have := hf4 y.g (hyg (by rw [← hy]; exact hn))
      simpa using this)
    clear ho4 hf4 hb4 hy hoky hyg
    refine hK _ _ hC1 ?_
    clear hK K
    refine callI (k := 3) (by kernel_rfl) rfl ?_ (fun K hK => ?_)
    · rfl
    go_simp
    refine hK _ _ (by assumption) ?_
    clear hK K
    refine callI (k := 4) (by kernel_rfl) rfl ?_ (fun K hK => ?_)
    · rfl
    have hown2 : Owns (w.heap.size + 3) 22 encBS 1 (w4.alloc (.cells #[.slice y.a y.bs.length y.c] 22)) v l := (HI.out.own.below hB1).alloc _
    have hll : l.length ≤ 100000 := by
      have h1 := congrArg List.length HI.out.eq
      simp only [List.length_map] at h1
      have h2 : L.length = rs.length := HS.out.len
      have h3 := HF.out.cnt
      omega
    refine wpI_push elemBS _ _ rfl (w.heap.size + 3) v l rfl hown2 w4.heap.size 1 y rfl (cells_new _ _ _) hll (by have := HI.out.sz; have := hB2.size; omega) ?_
    intro v' w5 hown5 hgrow5 hat5
    have hvl : ∀ q, v.ownBlock = some q → w.heap.size + 3 ≤ q ∧ q < W.heap.size := fun q hq => HI.out.own.lt q hq
    have hsW := HI.out.sz
    have hkeep : ∀ i, i < W.heap.size → v.ownBlock ≠ some i → w5.heap[i]? = W.heap[i]? := fun i hi hne => (hgrow5.block i (by have := hB2.size; omega) (fun e => hne e.symm)).trans (hB2.block i hi)
    have hHne : ∀ i, i < w.heap.size + 3 → v.ownBlock ≠ some i := fun i hi e => by have := (hvl i e).1; omega
    have hb1 : w5.heap[w.heap.size]? = some (.cells #[v] 55 (0, 0)) := (hkeep _ (by omega) (hHne _ (by omega))).trans HI.out.c1
    have hb2 : w5.heap[w.heap.size + 1]? = some (.cells #[.int .i64 (lastE pre : Nat)] 3 (0, 0)) := (hkeep _ (by omega) (hHne _ (by omega))).trans HI.out.c2
    have hv5 : ∀ q, v'.ownBlock = some q → w.heap.size + 3 ≤ q := fun q hq => (hown5.lt q hq).1
    have hs5 := hgrow5.size
    have hs4 := hB2.size
    simp only [World.size_alloc] at hs5 hs4
    have hBel5 : Below w.heap.size w w5 := (HI.out.bel.trans (hB2.mono HI.out.bel.size)).grown hgrow5 (by simp only [World.size_alloc]; omega) (fun q hq => by have := (hvl q hq).1; omega)
    have hko5 : KeepsOthers W w5 := ⟨by omega, fun i o hi ho => by
      have hil : i < W.heap.size := (Array.getElem?_eq_some_iff.1 hi).1
      refine (hkeep i hil (fun e => ?_)).trans hi
      rcases HI.out.own.2 with ⟨h1, _⟩ | ⟨g', cp, cur, h1, _, h2, _⟩
      · rw [h1] at e; cases e
      · rw [h1] at e
        cases e
        rw [h2] at hi
        cases hi
        cases ho⟩
    have hok5 : ∀ z ∈ l ++ [y], OkBS w5 z ∧ (z.bs ≠ [] → w.heap.size + 3 ≤ z.g ∧ v'.ownBlock ≠ some z.g) := fun z hz => by
      rcases List.mem_append.1 hz with hz | hz
      · obtain ⟨h1, h2⟩ := HI.out.ok z hz
        refine ⟨⟨h1.r.same (by omega) (fun hn => hkeep z.g (h1.r.lt hn) (h2 hn).2), h1.c, h1.m⟩, fun hn => ⟨(h2 hn).1, fun e => ?_⟩⟩
        rcases hat5 with h | h
        · rw [h] at e; exact (h2 hn).2 e
        · rw [h] at e
          simp only [Option.some.injEq, World.size_alloc] at e
          have := h1.r.lt hn
          omega
      · rw [List.mem_singleton] at hz
        subst hz
        have hz4 := HOKY.out
        refine ⟨⟨hz4.r.same (by omega) (fun hn => ?_), hz4.c, hz4.m⟩, fun hn => ⟨by have := HYF.out hn; omega, fun e => ?_⟩⟩
        · have h1 := hz4.r.lt hn
          have h2 := HYF.out hn
          refine (hgrow5.block z.g (by simp only [World.size_alloc]; omega) (fun e => by have := (hvl _ e.symm).2; omega)).trans ?_
          exact alloc_old _ _ h1
        · have h1 := hz4.r.lt hn
          have h2 := HYF.out hn
          rcases hat5 with h | h
          · rw [h] at e; have := (hvl _ e).2; omega
          · rw [h] at e
            simp only [Option.some.injEq, World.size_alloc] at e
            omega
    obtain ⟨aT, gT, oT, cT, hvT, _, _, _⟩ := hown5.rd encBS_len
    have hW6 : ∀ i, i ≠ w.heap.size → i ≠ w.heap.size + 1 → (((w5.setCell ⟨w.heap.size, 0, none⟩ v').setCell ⟨w.heap.size + 1, 0, none⟩ (.int .i64 ex)).heap[i]? = w5.heap[i]?) := fun i h1 h2 => (Below.heap_setCell _ _ _ i h2).trans (Below.heap_setCell _ _ _ i h1)
    have hlast : lastE (pre ++ [(⟨(x, ex), hz⟩ : Step a g off b rs)]) = ex := by unfold lastE; simp
    have HFIN := hid (show KeepsOthers W ((w5.setCell ⟨w.heap.size, 0, none⟩ v').setCell ⟨w.heap.size + 1, 0, none⟩ (.int .i64 ex)) ∧ KpS (fun i => i = w.heap.size + 2 ∨ (b ≠ [] ∧ i = g)) W ((w5.setCell ⟨w.heap.size, 0, none⟩ v').setCell ⟨w.heap.size + 1, 0, none⟩ (.int .i64 ex)) ∧ ∃ v l, ScanI w w.heap.size (pre ++ [(⟨(x, ex), hz⟩ : Step a g off b rs)]) ((w5.setCell ⟨w.heap.size, 0, none⟩ v').setCell ⟨w.heap.size + 1, 0, none⟩ (.int .i64 ex)) v l from
      ⟨(hko5.trans (KeepsOthers.setCell _ _ _)).trans (KeepsOthers.setCell _ _ _),
       ⟨by simp only [World.size_setCell]; omega, fun i hi hil => by
          have hi2 : i ≠ w.heap.size ∧ i ≠ w.heap.size + 1 ∧ i < w.heap.size + 3 := by
            rcases hi with rfl | ⟨hn, rfl⟩
            · omega
            · have := hglt hn; omega
          exact (hW6 i hi2.1 hi2.2.1).trans (hkeep i hil (hHne i hi2.2.2))⟩,
       v', l ++ [y], ⟨(Below.heap_setCell _ _ _ _ (by simp)).trans ((heap_set_at hb1 v').trans rfl), by
          rw [hlast]
          exact (heap_set_at ((Below.heap_setCell _ _ _ _ (by simp)).trans hb2) _).trans rfl,
        hown5.same (fun q hq => hW6 q (by have := hv5 q hq; omega) (by have := hv5 q hq; omega)),
        fun z hz2 => ⟨⟨(hok5 z hz2).1.r.same (by simp only [World.size_setCell]; omega) (fun hn => hW6 z.g (by have := ((hok5 z hz2).2 hn).1; omega) (by have := ((hok5 z hz2).2 hn).1; omega)), (hok5 z hz2).1.c, (hok5 z hz2).1.m⟩, (hok5 z hz2).2⟩,
        by rw [List.map_append, List.map_append, HI.out.eq]; simp [HY.out],
        (hBel5.setCell (p := ⟨w.heap.size, 0, none⟩) (Nat.le_refl _) _).setCell (p := ⟨w.heap.size + 1, 0, none⟩) (by simp) _,
        by simp only [World.size_setCell]; omega⟩⟩)
    have k1 : w5.cell? ⟨w.heap.size, 0, none⟩ = some v := by simp [World.cell?, hb1]
    have k2 : w5.frozen? ⟨w.heap.size, 0, none⟩ = false := by simp [World.frozen?, hb1]
    have k3 : w5.cell? ⟨w.heap.size + 1, 0, none⟩ = some (.int .i64 (lastE pre : Nat)) := by simp [World.cell?, hb2]
    have k4 : w5.frozen? ⟨w.heap.size + 1, 0, none⟩ = false := by simp [World.frozen?, hb2]
    have hC5 : (fun W' => W'.cell? ⟨w.heap.size, 0, none⟩ = some v) w5 := k1
    subst hvT
    clear hvl hkeep hHne hb1 hb2 hv5 hs5 hs4 hBel5 hko5 hok5 hW6 hlast hown5 hgrow5 hat5 hown2 hB0 hB1 hB2 hC0 hC1 hC2
    refine hK _ _ hC5 ?_
    clear hK K
    refine lastI (by kernel_rfl) rfl ?_ (fun K hK => ?_)
    · rfl
    go_simp
    refine hK _ _ ?_
    clear hK K
    refine doneI (by kernel_rfl) ?_
    clear hC5
    gi_wp2
    have HF2 := HFIN.out
    rw [show (l ++ [y]).length = l.length + 1 by simp] at HF2
    exact HF2
  case done =>
    rintro D xs W hD rfl ⟨v, l, hI⟩ hK
    have hc1 : W.cell? ⟨w.heap.size, 0, none⟩ = some v := by simp [World.cell?, hI.c1]
    have hc2 : W.cell? ⟨w.heap.size + 1, 0, none⟩ = some (.int .i64 (lastE xs : Nat)) := by simp [World.cell?, hI.c2]
    have hz1 : W.frozen? ⟨w.heap.size, 0, none⟩ = false := by simp [World.frozen?, hI.c1]
    have hz2 : W.frozen? ⟨w.heap.size + 1, 0, none⟩ = false := by simp [World.frozen?, hI.c2]
    have HI := hid hI
    have HKD := hid hK
    obtain ⟨aT, gT, oT, cT, hvT, _, _, _⟩ := hI.own.rd encBS_len
    obtain ⟨n, hn⟩ : ∃ n, n = lastE xs := ⟨_, rfl⟩
    rw [← hn] at hc2
    have HN := hid hn
    clear hI hK hn
    gi_wp2
    refine Code.wpIn_mono noP_out ?_
    refine wp_region_I (fun W' => W'.cell? ⟨w.heap.size, 0, none⟩ = some v ∧ W'.cell? ⟨w.heap.size + 1, 0, none⟩ = some (.int .i64 (n : Nat)) ∧ W'.frozen? ⟨w.heap.size, 0, none⟩ = false ∧ W'.frozen? ⟨w.heap.size + 1, 0, none⟩ = false) 3 (by kernel_rfl) ?_
    have hC0 : (fun W' => W'.cell? ⟨w.heap.size, 0, none⟩ = some v ∧ W'.cell? ⟨w.heap.size + 1, 0, none⟩ = some (.int .i64 (n : Nat)) ∧ W'.frozen? ⟨w.heap.size, 0, none⟩ = false ∧ W'.frozen? ⟨w.heap.size + 1, 0, none⟩ = false) W.drew := ⟨hc1, hc2, hz1, hz2⟩
    have hC9 : (fun W' => W'.cell? ⟨w.heap.size, 0, none⟩ = some v ∧ W'.cell? ⟨w.heap.size + 1, 0, none⟩ = some (.int .i64 (n : Nat)) ∧ W'.frozen? ⟨w.heap.size, 0, none⟩ = false ∧ W'.frozen? ⟨w.heap.size + 1, 0, none⟩ = false) (W.setCell ⟨w.heap.size, 0, none⟩ v).drew := cell2_set HI.out.c1 (by rw [HN.out]; exact HI.out.c2)
    subst hvT
    refine takeI (i := 0) (v := ?_) rfl (by kernel_rfl) (by kernel_rfl) (by kernel_rfl) (by kernel_rfl) (by kernel_rfl) (fun _ _ _ h => h) (by assumption) ⟨Or.inl ⟨?_, ?_⟩, fun _ => rfl⟩ (fun K hK => ?_)
    rotate_left
    · rfl
    · (intro W hW; (obtain ⟨e1, e2, e3, e4⟩ := hW); go_simp; first | done | with_reducible rfl)
    (try go_simp)
    refine hK _ _ ?_
    clear hK K
    refine takeI (i := 1) (v := ?_) rfl (by kernel_rfl) (by kernel_rfl) (by kernel_rfl) (by kernel_rfl) (by kernel_rfl) (fun _ _ _ h => h) (by assumption) ⟨Or.inl ⟨?_, ?_⟩, fun _ => rfl⟩ (fun K hK => ?_)
    rotate_left
    · rfl
    · (intro W hW; (obtain ⟨e1, e2, e3, e4⟩ := hW); go_simp; first | done | with_reducible rfl)
    (try go_simp)
    refine hK _ _ ?_
    clear hK K
    refine callI (k := 2) (by kernel_rfl) rfl ?_ (fun K hK => ?_)
    · rfl
    go_simp
    refine hK _ _ (by assumption) ?_
    clear hK K
    refine lastI (by kernel_rfl) rfl ?_ (fun K hK => ?_)
    · rfl
    go_simp
    refine hK _ _ ?_
    clear hK K
    refine doneI (by kernel_rfl) ?_
    simp only [noP]
    gi_wp2
    have hid1 : W.setCell ⟨w.heap.size, 0, none⟩ (.slice aT l.length cT) = W := setCell_id HI.out.c1
    have hc2' : W.heap[w.heap.size + 1]? = some (.cells #[.int .i64 (n : Nat)] 3 (0, 0)) := by rw [HN.out]; exact HI.out.c2
    rw [hid1, setCell_id hc2']
    have hDlt := hD
    have hI2 := HI.out.kept (A' := W.drew) (row := none) ⟨rfl, rfl, rfl, Nat.le_refl _, fun _ _ _ => rfl⟩ (fun r e => by cases e)
    have hfin := hI2.kept (A' := (W.drew).putObj D (.deferred none)) (row := some D) (grownBy_putObj' W.drew D (.deferred none)) (fun r e => by cases e; exact ⟨by omega, _, HKD.out, rfl⟩)
    have e1 : ((W.drew).putObj D (.deferred none)).cell? ⟨w.heap.size, 0, none⟩ = some (.slice aT l.length cT) := by simp only [World.cell?, hfin.c1]; simp
    have e2 : ((W.drew).putObj D (.deferred none)).cell? ⟨w.heap.size + 1, 0, none⟩ = some (.int .i64 (n : Nat)) := by simp only [World.cell?, hfin.c2]; rw [HN.out]; simp
    refine ⟨by simp, .inl ⟨_, _, rfl, run_takeDeferred (w := W.drew) HKD.out, ?_⟩⟩
    refine ⟨.tuple #[.slice aT l.length cT, .int .i64 (n : Nat)], ?_, .slice aT l.length cT, l, ?_, hfin.own, fun x hx => ⟨(hfin.ok x hx).1, fun hn => by have := ((hfin.ok x hx).2 hn).1; omega⟩, ?_, hfin.bel⟩
    · rw [results_cell2 Try.results55]
      simp [asAddr, go_sem, e1, e2]
    · rw [HN.out, lastE_take HS.out]
    · rw [hfin.eq]; exact rs_of HS.out
  case stop =>
    rintro D c pre W _ _ h _
    exact h.elim
end Go.Proofs.Ytopabknlgmihpaa
