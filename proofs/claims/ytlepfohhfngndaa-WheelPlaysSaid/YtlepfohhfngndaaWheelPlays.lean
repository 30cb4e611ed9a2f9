/- WheelPlays: whatever is done with a wheel, each answer, and all that it shows, is the document's. The walk. -/
import Derived.Test.YtlepfohhfngndaaWheelAwake
namespace Go.Proofs.Ytlepfohhfngndaa
open Go Go.RowKit Go.MapKept Go.ChangeMaps Go.Maps

/-- What is done with a wheel. -/
structure WAct where
  z : Int
  i : Id
  t : Int
def encWAct (a : WAct) : List Value := [.int .i64 a.z, .int .i64 a.i.r, .int .i64 a.i.n, .int .i64 a.t]
theorem sizeWAct : ∀ W, (sizeOf 30).run Try.prog W = .ok 4 W := fun W => by kernel_rfl

set_option maxRecDepth 100000 in
set_option maxHeartbeats 400000 in
theorem WheelPlays_great (w : World) (a0 : Option Addr) (c0 n : Nat) (hgt : 100 < n) :
    Calls Try.prog 3 #[.slice a0 n c0] w fun e w' => e = .returned (.bool true) ∧ Below w.heap.size w w' := by
  go_enter Try.func3, Try.ntmps3
  go_wp2_with (go_at_call 8; refine (WheelAwake _).mono ?_; rintro e w' ⟨rfl, hb⟩)
  go_ret
  exact ⟨rfl, hb⟩

theorem below_of {w w1 w2 : World} {m : Nat} (h : Below w.heap.size w w1) (k : Keeps (· = m) w1 w2) (hm : w.heap.size ≤ m) : Below w.heap.size w w2 :=
  (Keeps.trans (S := (· = m)) (below_keeps h) k (fun _ _ e => e)).below (Nat.le_refl _) (fun _ e => by omega)
theorem none_ev : Keeps (fun _ => False) = Keeps (fun _ => False) := rfl

set_option maxRecDepth 100000 in
set_option maxHeartbeats 8000000 in
theorem WheelPlays_small (w : World) (a0 : Option Addr) (g0 o0 c0 : Nat) (L : List WAct) (hL : RdS encWAct 4 w a0 g0 o0 L) (hle : L.length ≤ 100) :
    Calls Try.prog 3 #[.slice a0 L.length c0] w fun e w' => e = .returned (.bool true) ∧ Below w.heap.size w w' := by
  go_enter Try.func3, Try.ntmps3
  go_wp2_with fail
  refine (New_spec _).mono ?_
  rintro e w1 ⟨p, m, rfl, hW1, hE1, hmw, hpw⟩
  have hml := hW1.map.lt
  have hpl := hW1.lt
  have hbw1 := hE1.below
  clear hE1
  go_wp2_with fail
  go_loopw [4, 5] (fun s4 s5 wr => ∃ (n : Nat) (M X : List (Id × Int)), n ≤ L.length ∧ s5 = .int .i64 n ∧ Plays M X ∧ X.length ≤ n ∧ Wheel wr p m M ∧ Rd encT 3 wr s4 X ∧ (∀ g, s4.ownBlock = some g → w1.heap.size ≤ g) ∧ Below w.heap.size w wr ∧ w1.heap.size ≤ wr.heap.size) (fun _ s5 _ => L.length - (intOf s5).toNat)
  case atStart => exact ⟨0, [], [], Nat.zero_le _, rfl, Plays.start, Nat.le_refl _, hW1, Rd.nil, (fun g hg => by cases hg), hbw1, Nat.le_refl _⟩
  case round =>
    obtain ⟨n, M, X, hn, rfl, hP, hXn, hW, hX, hfr, hb, hsz⟩ := hrel
    obtain ⟨aX, gX, oX, cX, rfl, hcX, hXr, hnilX⟩ := hX
    by_cases hlt : n < L.length
    · have hx := hL.index (P := Try.prog) Try.underlying22 sizeWAct hlt c0
      have hget : L[n]? = some L[n] := by simp [hlt]
      have hLr := hL.below hb
      have l0 : wr.cell? ⟨g0, o0 + n * 4, none⟩ = some (.int .i64 L[n].z) := hLr.cells n L[n] hget 0 _ rfl
      have l1 : wr.cell? ⟨g0, o0 + n * 4 + 1, none⟩ = some (.int .i64 L[n].i.r) := hLr.cells n L[n] hget 1 _ rfl
      have l2 : wr.cell? ⟨g0, o0 + n * 4 + 2, none⟩ = some (.int .i64 L[n].i.n) := hLr.cells n L[n] hget 2 _ rfl
      have l3 : wr.cell? ⟨g0, o0 + n * 4 + 3, none⟩ = some (.int .i64 L[n].t) := hLr.cells n L[n] hget 3 _ rfl
      generalize L[n] = A at *
      obtain ⟨z, i, t⟩ := A
      simp only at l0 l1 l2 l3
      have hX100 : X.length ≤ 100 := by omega
      have hfr' : ∀ g, Value.ownBlock (.slice aX X.length cX) = some g → ¬ (g = m) := fun g hg e => by have := hfr g hg; omega
      have hgX : X ≠ [] → ¬ (gX = m) := fun h0 => hfr' gX (by rw [hXr.some h0]; rfl)
      clear hget hLr
      go_wp2_with fail
      refine (RefFind_any _ aX gX oX cX X i (hXr.below ((Ext.refl wr).alloc _).below) (by omega)).mono ?_
      rintro e w2 ⟨heF, hE2⟩
      have hEA : Ext wr w2 := ((Ext.refl wr).alloc (.cells #[.int .i64 z, .int .i64 i.r, .int .i64 i.n, .int .i64 t] 30)).trans hE2
      have hW2 := hW.ext hEA
      have hX2 := hXr.below hEA.below
      have hb2 : Below w.heap.size w w2 := below_trans' hb hEA.below
      have f0 : w2.cell? ⟨wr.heap.size, 0, none⟩ = some (.int .i64 z) := (hE2.keeps (S := fun _ => False)).cell (fun h => h) (by simp)
      have f1 : w2.cell? ⟨wr.heap.size, 1, none⟩ = some (.int .i64 i.r) := (hE2.keeps (S := fun _ => False)).cell (fun h => h) (by simp)
      have f2 : w2.cell? ⟨wr.heap.size, 2, none⟩ = some (.int .i64 i.n) := (hE2.keeps (S := fun _ => False)).cell (fun h => h) (by simp)
      have f3 : w2.cell? ⟨wr.heap.size, 3, none⟩ = some (.int .i64 t) := (hE2.keeps (S := fun _ => False)).cell (fun h => h) (by simp)
      have hs2 : wr.heap.size < w2.heap.size := by have := hE2.size; simp at this; omega
      clear hW hXr hb hE2 hEA l0 l1 l2 l3 hx
      have hag := aget_perm hP.keys hP.perm i
      have hah : ahas M i = (aget X i).isSome := by rw [ahas_eq, hag]
      rcases findT_spec hP.keysX i with ⟨hF, hG⟩ | ⟨q, hq, hF, hG⟩
      · rw [hF] at heF
        rw [hG] at hag hah
        subst heF
        go_wp2_with fail
        refine (At_any _ p m M i hW2).mono ?_
        rintro e w3 ⟨heA, hE3⟩
        rw [hag, hah] at heA
        have heA' : e = .returned (.tuple #[.int .i64 0, .bool false]) := heA
        clear heA hF hG
        subst heA'
        have hW3 := hW2.ext hE3
        have hX3 := hX2.below hE3.below
        have hb3 : Below w.heap.size w w3 := below_trans' hb2 hE3.below
        replace f0 := (hE3.keeps (S := fun _ => False)).cell (fun h => h) f0
        replace f1 := (hE3.keeps (S := fun _ => False)).cell (fun h => h) f1
        replace f2 := (hE3.keeps (S := fun _ => False)).cell (fun h => h) f2
        replace f3 := (hE3.keeps (S := fun _ => False)).cell (fun h => h) f3
        have hs3 : wr.heap.size < w3.heap.size := by have := hE3.size; omega
        clear hW2 hX2 hb2 hE3 hs2
        by_cases hz : z = 0
        · have hzn : (z == 0) = true := by simpa using hz
          subst hz
          clear hzn
          go_wp2_with fail
          refine (Set_any _ p m M i t hW3).mono ?_
          rintro e w4 ⟨rfl, hW4, hk4⟩
          have hX4 := RdS.keeps (S := (· = m)) hX3 hk4 hgX
          replace f0 := hk4.cell (by omega) f0
          replace f1 := hk4.cell (by omega) f1
          replace f2 := hk4.cell (by omega) f2
          replace f3 := hk4.cell (by omega) f3
          have hb4 := below_of hb3 hk4 hmw
          have hs4 : wr.heap.size < w4.heap.size := by have := hk4.size; omega
          clear hW3 hX3 hb3 hk4 hs3
          go_wp2_with fail
          refine (RefSet_any _ aX gX oX cX X (i, t) hX4 (by omega)).mono ?_
          rintro e wT ⟨v5, rfl, hown, hb5⟩
          have hPT := hP.set i t
          have hlenT : (setT X (i, t)).length ≤ n + 1 := by
            have h1 : (insT (adel X i) (i, t)).length = (adel X i).length + 1 := (insT_perm (i, t) (adel X i)).length_eq
            have h2 : (adel X i).length ≤ X.length := List.length_filter_le _ _
            show (insT (adel X i) (i, t)).length ≤ n + 1
            omega
          obtain ⟨MT, hMT⟩ : ∃ MT, MT = aput M i t := ⟨_, rfl⟩
          obtain ⟨XT, hXTe⟩ : ∃ XT, XT = setT X (i, t) := ⟨_, rfl⟩
          have hWT : Wheel wT p m MT := by rw [hMT]; exact hW4.kept (below_keeps (S := fun _ => False) hb5) (fun h => h) (fun h => h)
          rw [← hMT, ← hXTe] at hPT
          rw [← hXTe] at hlenT hown
          have hbT : Below w.heap.size w wT := below_trans' hb4 hb5
          have hszT : w1.heap.size ≤ wT.heap.size := by have := hb5.size; omega
          have hfrT : ∀ g, v5.ownBlock = some g → w1.heap.size ≤ g := fun g hg => by have := (hown.lt g hg).1; omega
          clear hMT hXTe hW4 hX4 hb4 hb5 hP hag hah

          obtain ⟨aT, gT, oT, cT, hvT, hcT, hXT, hnT⟩ := Owns.rd encT_len hown
          subst hvT
          clear f0 f1 f2 f3
          have hLT := hPT.len
          have hleT := hPT.least
          have hcase : XT = [] ∨ ∃ x0 r0, XT = x0 :: r0 := by
            cases XT with
            | nil => exact Or.inl rfl
            | cons a r => exact Or.inr ⟨a, r, rfl⟩
          rcases hcase with hXe | ⟨x0, r0, hXe⟩
          · have hME : MT = [] := by rw [hXe] at hPT; exact List.perm_nil.1 hPT.perm
            have hnz : ¬ (0 : Int) < (XT.length : Int) := by rw [hXe]; simp
            have hdz : decide ((0 : Int) < (XT.length : Int)) = false := by simpa using hnz
            have HPT := hid hPT
            clear hPT
            have hNx := Next_any wT p m MT hWT
            rw [hleT, hXe, hME] at hNx
            simp only [List.head?_nil, Option.map_none, Option.getD_none, List.isEmpty_nil, Bool.not_true] at hNx
            have hLn := fun W (hW : Wheel W p m MT) => Len_any W p m MT hW
            rw [hLT] at hLn
            have HXe := hid hXe
            have HME := hid hME
            clear hXe hME hleT hLT

            have HNx := hid hNx
            have HLn := hid hLn
            clear hNx hLn
            go_wp2_with fail
            refine HNx.out.mono ?_
            rintro e w7 ⟨rfl, hE7⟩
            have hW7 := hWT.ext hE7
            have hX7 := hXT.below hE7.below
            have hb7 : Below w.heap.size w w7 := below_trans' hbT hE7.below
            have hs7 : w1.heap.size ≤ w7.heap.size := Nat.le_trans hszT hE7.size

            have HW7 := hid hW7
            have HX7 := hid hX7
            have HB7 := hid hb7
            have HFR := hid hfrT
            clear hWT hXT hbT hE7 HNx hW7 hX7 hb7 hfrT
            go_wp2_with fail
            refine (HLn.out _ HW7.out).mono ?_
            rintro e w8 ⟨rfl, rfl⟩
            clear HLn
            go_wp2
            all_goals
              have e0 := HXe.out
              subst e0
              go_roundw
              case rel => exact ⟨n + 1, MT, [], by omega, by go_num, HPT.out, hlenT, HW7.out, ⟨aT, gT, oT, cT, rfl, hcT, HX7.out, hnT⟩, HFR.out, HB7.out, hs7⟩
              case measure => simp [intOf]; omega
          · have hpos : 0 < XT.length := by rw [hXe]; simp
            have hdz : decide ((0 : Int) < (XT.length : Int)) = true := by simpa using hpos
            have hMne : MT.isEmpty = false := by
              cases MT with
              | nil => rw [hXe] at hLT; simp at hLT
              | cons _ _ => rfl
            have HPT := hid hPT
            clear hPT
            have hNx := Next_any wT p m MT hWT
            rw [hleT, hMne, hXe] at hNx
            simp only [List.head?_cons, Option.map_some, Option.getD_some, Bool.not_false] at hNx
            have hLn := fun W (hW : Wheel W p m MT) => Len_any W p m MT hW
            rw [hLT] at hLn
            have hx0 : XT[0]? = some x0 := by rw [hXe]; rfl
            have HXe := hid hXe
            clear hXe hMne hleT hLT

            have HNx := hid hNx
            have HLn := hid hLn
            clear hNx hLn
            go_wp2_with fail
            refine HNx.out.mono ?_
            rintro e w7 ⟨rfl, hE7⟩
            have hW7 := hWT.ext hE7
            have hX7 := hXT.below hE7.below
            have hb7 : Below w.heap.size w w7 := below_trans' hbT hE7.below
            have hs7 : w1.heap.size ≤ w7.heap.size := Nat.le_trans hszT hE7.size

            have hxi : ∀ W, (Instr.indexAt 26 (.slice aT XT.length cT) (.int .i64 0)).run Try.prog W = .ok (.pointer (some ⟨gT, oT, none⟩)) W := fun W => by
              have := hX7.index (P := Try.prog) Try.underlying26 sizeT hpos cT W
              simpa using this
            have c2 : w7.cell? ⟨gT, oT + 2, none⟩ = some (.int .i64 x0.2) := by simpa using hX7.cells 0 x0 hx0 2 _ rfl
            generalize x0.2 = y0 at *
            clear hx0

            have HW7 := hid hW7
            have HX7 := hid hX7
            have HB7 := hid hb7
            have HFR := hid hfrT
            clear hWT hXT hbT hE7 HNx hW7 hX7 hb7 hfrT
            go_wp2_with fail
            refine (HLn.out _ HW7.out).mono ?_
            rintro e w8 ⟨rfl, rfl⟩
            clear HLn
            go_wp2
            all_goals
              go_roundw
              case rel => exact ⟨n + 1, MT, XT, by omega, by go_num, HPT.out, hlenT, HW7.out, ⟨aT, gT, oT, cT, rfl, hcT, HX7.out, hnT⟩, HFR.out, HB7.out, hs7⟩
              case measure => simp [intOf]; omega
        · have hz1 := hz
          clear hz
          by_cases hz : z = 1
          · clear hz1
            have hzn : (z == 0) = false := by rw [hz]; rfl
            subst hz
            clear hzn
            have hCa := Cancel_any w3 p m M i hW3
            rw [hah] at hCa
            simp only [Option.isSome_none, Option.isSome_some] at hCa
            have HCa := hid hCa
            clear hCa
            go_wp2_with fail
            refine HCa.out.mono ?_
            rintro e w4 ⟨rfl, hW4, hk4⟩
            have hX4 := RdS.keeps (S := (· = m)) hX3 hk4 hgX
            replace f0 := hk4.cell (by omega) f0
            replace f1 := hk4.cell (by omega) f1
            replace f2 := hk4.cell (by omega) f2
            replace f3 := hk4.cell (by omega) f3
            have hb4 := below_of hb3 hk4 hmw
            have hs4 : wr.heap.size < w4.heap.size := by have := hk4.size; omega
            clear hW3 hX3 hb3 hk4 hs3 HCa
            go_wp2_with fail
            refine (RefOut_any _ aX gX oX cX X i hX4 (by omega)).mono ?_
            rintro e wT ⟨v5, rfl, hown, hb5⟩
            have hPT := hP.del i
            have hlenT : (adel X i).length ≤ n + 1 := by
              have h2 : (adel X i).length ≤ X.length := List.length_filter_le _ _
              omega
            obtain ⟨MT, hMT⟩ : ∃ MT, MT = adel M i := ⟨_, rfl⟩
            obtain ⟨XT, hXTe⟩ : ∃ XT, XT = adel X i := ⟨_, rfl⟩
            have hWT : Wheel wT p m MT := by rw [hMT]; exact hW4.kept (below_keeps (S := fun _ => False) hb5) (fun h => h) (fun h => h)
            rw [← hMT, ← hXTe] at hPT
            rw [← hXTe] at hlenT hown
            have hbT : Below w.heap.size w wT := below_trans' hb4 hb5
            have hszT : w1.heap.size ≤ wT.heap.size := by have := hb5.size; omega
            have hfrT : ∀ g, v5.ownBlock = some g → w1.heap.size ≤ g := fun g hg => by have := (hown.lt g hg).1; omega
            clear hMT hXTe hW4 hX4 hb4 hb5 hP hag hah

            obtain ⟨aT, gT, oT, cT, hvT, hcT, hXT, hnT⟩ := Owns.rd encT_len hown
            subst hvT
            clear f0 f1 f2 f3
            have hLT := hPT.len
            have hleT := hPT.least
            have hcase : XT = [] ∨ ∃ x0 r0, XT = x0 :: r0 := by
              cases XT with
              | nil => exact Or.inl rfl
              | cons a r => exact Or.inr ⟨a, r, rfl⟩
            rcases hcase with hXe | ⟨x0, r0, hXe⟩
            · have hME : MT = [] := by rw [hXe] at hPT; exact List.perm_nil.1 hPT.perm
              have hnz : ¬ (0 : Int) < (XT.length : Int) := by rw [hXe]; simp
              have hdz : decide ((0 : Int) < (XT.length : Int)) = false := by simpa using hnz
              have HPT := hid hPT
              clear hPT
              have hNx := Next_any wT p m MT hWT
              rw [hleT, hXe, hME] at hNx
              simp only [List.head?_nil, Option.map_none, Option.getD_none, List.isEmpty_nil, Bool.not_true] at hNx
              have hLn := fun W (hW : Wheel W p m MT) => Len_any W p m MT hW
              rw [hLT] at hLn
              have HXe := hid hXe
              have HME := hid hME
              clear hXe hME hleT hLT

              have HNx := hid hNx
              have HLn := hid hLn
              clear hNx hLn
              go_wp2_with fail
              refine HNx.out.mono ?_
              rintro e w7 ⟨rfl, hE7⟩
              have hW7 := hWT.ext hE7
              have hX7 := hXT.below hE7.below
              have hb7 : Below w.heap.size w w7 := below_trans' hbT hE7.below
              have hs7 : w1.heap.size ≤ w7.heap.size := Nat.le_trans hszT hE7.size

              have HW7 := hid hW7
              have HX7 := hid hX7
              have HB7 := hid hb7
              have HFR := hid hfrT
              clear hWT hXT hbT hE7 HNx hW7 hX7 hb7 hfrT
              go_wp2_with fail
              refine (HLn.out _ HW7.out).mono ?_
              rintro e w8 ⟨rfl, rfl⟩
              clear HLn
              go_wp2
              all_goals
                have e0 := HXe.out
                subst e0
                go_roundw
                case rel => exact ⟨n + 1, MT, [], by omega, by go_num, HPT.out, hlenT, HW7.out, ⟨aT, gT, oT, cT, rfl, hcT, HX7.out, hnT⟩, HFR.out, HB7.out, hs7⟩
                case measure => simp [intOf]; omega
            · have hpos : 0 < XT.length := by rw [hXe]; simp
              have hdz : decide ((0 : Int) < (XT.length : Int)) = true := by simpa using hpos
              have hMne : MT.isEmpty = false := by
                cases MT with
                | nil => rw [hXe] at hLT; simp at hLT
                | cons _ _ => rfl
              have HPT := hid hPT
              clear hPT
              have hNx := Next_any wT p m MT hWT
              rw [hleT, hMne, hXe] at hNx
              simp only [List.head?_cons, Option.map_some, Option.getD_some, Bool.not_false] at hNx
              have hLn := fun W (hW : Wheel W p m MT) => Len_any W p m MT hW
              rw [hLT] at hLn
              have hx0 : XT[0]? = some x0 := by rw [hXe]; rfl
              have HXe := hid hXe
              clear hXe hMne hleT hLT

              have HNx := hid hNx
              have HLn := hid hLn
              clear hNx hLn
              go_wp2_with fail
              refine HNx.out.mono ?_
              rintro e w7 ⟨rfl, hE7⟩
              have hW7 := hWT.ext hE7
              have hX7 := hXT.below hE7.below
              have hb7 : Below w.heap.size w w7 := below_trans' hbT hE7.below
              have hs7 : w1.heap.size ≤ w7.heap.size := Nat.le_trans hszT hE7.size

              have hxi : ∀ W, (Instr.indexAt 26 (.slice aT XT.length cT) (.int .i64 0)).run Try.prog W = .ok (.pointer (some ⟨gT, oT, none⟩)) W := fun W => by
                have := hX7.index (P := Try.prog) Try.underlying26 sizeT hpos cT W
                simpa using this
              have c2 : w7.cell? ⟨gT, oT + 2, none⟩ = some (.int .i64 x0.2) := by simpa using hX7.cells 0 x0 hx0 2 _ rfl
              generalize x0.2 = y0 at *
              clear hx0

              have HW7 := hid hW7
              have HX7 := hid hX7
              have HB7 := hid hb7
              have HFR := hid hfrT
              clear hWT hXT hbT hE7 HNx hW7 hX7 hb7 hfrT
              go_wp2_with fail
              refine (HLn.out _ HW7.out).mono ?_
              rintro e w8 ⟨rfl, rfl⟩
              clear HLn
              go_wp2
              all_goals
                go_roundw
                case rel => exact ⟨n + 1, MT, XT, by omega, by go_num, HPT.out, hlenT, HW7.out, ⟨aT, gT, oT, cT, rfl, hcT, HX7.out, hnT⟩, HFR.out, HB7.out, hs7⟩
                case measure => simp [intOf]; omega
          · have hz2 := hz
            clear hz
            by_cases hz : z = 2
            · clear hz1 hz2
              have hzn : (z == 0) = false := by rw [hz]; rfl
              subst hz
              clear hzn
              go_wp2_with fail
              refine (Due_any _ p m M t hW3 (by rw [hP.len]; omega)).mono ?_
              rintro e w4 ⟨v4, out, rfl, hcol, hown, hW4, hk4⟩
              have hX4 := RdS.keeps (S := (· = m)) hX3 hk4 hgX
              replace f0 := hk4.cell (by omega) f0
              replace f1 := hk4.cell (by omega) f1
              replace f2 := hk4.cell (by omega) f2
              replace f3 := hk4.cell (by omega) f3
              have hb4 := below_of hb3 hk4 hmw
              have hs4 : wr.heap.size < w4.heap.size := by have := hk4.size; omega
              rw [hP.due hcol] at hown hW4
              have hPT := hP.drop (dueT X t)
              have hnT := dueT_le X t
              have hRD := fun W (hX : RdS encT 3 W aX gX oX X) => RefDue_any W aX gX oX cX X t hX (by omega)
              generalize dueT X t = q2 at *
              obtain ⟨aD, gD, oD, cD, hvD, hcD, hrD, hnD⟩ := Owns.rd encId_len hown
              subst hvD
              have hlD : ((X.take q2).map (·.1)).length = q2 := by simp; omega
              have hDg : ∀ j, j < q2 → ∀ x, X[j]? = some x → ((X.take q2).map (·.1))[j]? = some x.1 := fun j hj x hx => by
                rw [List.getElem?_map, List.getElem?_take, if_pos hj, hx]; rfl
              obtain ⟨D, hD⟩ : ∃ D, D = (X.take q2).map (·.1) := ⟨_, rfl⟩
              rw [← hD] at hW4 hrD hlD hDg hcD hPT
              rw [← hD]
              rw [hlD]
              have hDi := fun (k : Nat) (hk : k < q2) => hrD.index (P := Try.prog) Try.underlying40 sizeId (i := k) (by omega) cD
              rw [hlD] at hDi
              have HRD := hid hRD
              have HDI := hid hDi
              have HDG := hid hDg
              have HPT := hid hPT
              have HLD := hid hlD
              clear hW3 hX3 hb3 hk4 hs3 hcol hown hD hRD hDi hDg hPT hlD
              go_wp2_with fail
              refine (HRD.out _ hX4).mono ?_
              rintro e w5 ⟨rfl, hE5⟩
              have hW5 := hW4.ext hE5
              have hX5 := hX4.below hE5.below
              have hD5 := hrD.below hE5.below
              have hb5 : Below w.heap.size w w5 := below_trans' hb4 hE5.below
              have hs5 : wr.heap.size < w5.heap.size := by have := hE5.size; omega
              clear hW4 hX4 hrD hb4 hE5 hs4 HRD f0 f1 f2 f3
              go_wp2_with fail
              go_loopw [12] (fun s12 wq => ∃ j : Nat, j ≤ q2 ∧ s12 = .int .i64 j ∧ Ext w5 wq) (fun s12 _ => q2 - (intOf s12).toNat)
              case atStart => exact ⟨0, Nat.zero_le _, rfl, Ext.refl _⟩
              case round =>
                obtain ⟨j, hj, rfl, hEq⟩ := hrel
                by_cases hjl : j < q2
                · have hD6 := hD5.below hEq.below
                  have hX6 := hX5.below hEq.below
                  have hjX : j < X.length := by omega
                  have hxg : X[j]? = some X[j] := by simp [hjX]
                  have hdg := HDG.out j hjl _ hxg
                  have hi1 := HDI.out j hjl
                  have hi2 := hX6.index (P := Try.prog) Try.underlying26 sizeT hjX cX
                  have c0 := RdT0 hX6 hjX
                  have c1 := RdT1 hX6 hjX
                  generalize X[j] = x at *
                  have d0 : wr.cell? ⟨gD, oD + j * 2, none⟩ = some (.int .i64 x.1.r) := hD6.cells j x.1 hdg 0 _ rfl
                  have d1 : wr.cell? ⟨gD, oD + j * 2 + 1, none⟩ = some (.int .i64 x.1.n) := hD6.cells j x.1 hdg 1 _ rfl
                  have hne := run_neq_id x.1 x.1
                  rw [show decide (x.1 = x.1) = true by simp] at hne
                  have HE := hid hEq
                  clear hxg hdg hD6 hX6 hEq
                  go_wp2
                  go_quiet (fail)
                  go_wp2
                  go_roundw
                  case rel => exact ⟨j + 1, by omega, by go_num, HE.out.drewN _⟩
                  case measure => simp [intOf]; omega
                · have hj2 : j = q2 := by omega
                  subst hj2
                  obtain ⟨wT, rfl⟩ : ∃ wT : World, wT = wr := ⟨_, rfl⟩
                  obtain ⟨vT, hsl1, hsl2, hrdT, hobT⟩ := hX5.drop (P := Try.prog) Try.underlying26 sizeT hnT hcX hnilX
                  clear hnT
                  have hlenT : (X.drop j).length ≤ n + 1 := by simp; omega
                  have hWT : Wheel wT p m (D.foldl adel M) := hW5.ext hEq
                  have hrdT2 := hrdT.ext hEq
                  have hbT : Below w.heap.size w wT := below_trans' hb5 hEq.below
                  have hszT : w1.heap.size ≤ wT.heap.size := by have := hEq.size; omega
                  have hfrT : ∀ g, vT.ownBlock = some g → w1.heap.size ≤ g := fun g hg => hfr g (hobT g hg)
                  have hPT := HPT.out
                  obtain ⟨MT, hMT⟩ : ∃ MT, MT = D.foldl adel M := ⟨_, rfl⟩
                  obtain ⟨XT, hXTe⟩ : ∃ XT, XT = X.drop j := ⟨_, rfl⟩
                  rw [← hMT, ← hXTe] at hPT
                  rw [← hMT] at hWT
                  rw [← hXTe] at hlenT hrdT2
                  obtain ⟨aT, gT, oT, cT, hvT, hcT, hXT, hnT⟩ := hrdT2
                  subst hvT
                  clear hMT hXTe hrdT hobT hEq hb5 hX5 hD5 hW5 HPT HDI HDG
                  have f0 : True := trivial
                  have f1 : True := trivial
                  have f2 : True := trivial
                  have f3 : True := trivial
                  clear f0 f1 f2 f3
                  have hLT := hPT.len
                  have hleT := hPT.least
                  have hcase : XT = [] ∨ ∃ x0 r0, XT = x0 :: r0 := by
                    cases XT with
                    | nil => exact Or.inl rfl
                    | cons a r => exact Or.inr ⟨a, r, rfl⟩
                  rcases hcase with hXe | ⟨x0, r0, hXe⟩
                  · have hME : MT = [] := by rw [hXe] at hPT; exact List.perm_nil.1 hPT.perm
                    have hnz : ¬ (0 : Int) < (XT.length : Int) := by rw [hXe]; simp
                    have hdz : decide ((0 : Int) < (XT.length : Int)) = false := by simpa using hnz
                    have HPT := hid hPT
                    clear hPT
                    have hNx := Next_any wT p m MT hWT
                    rw [hleT, hXe, hME] at hNx
                    simp only [List.head?_nil, Option.map_none, Option.getD_none, List.isEmpty_nil, Bool.not_true] at hNx
                    have hLn := fun W (hW : Wheel W p m MT) => Len_any W p m MT hW
                    rw [hLT] at hLn
                    have HXe := hid hXe
                    have HME := hid hME
                    clear hXe hME hleT hLT

                    have HNx := hid hNx
                    have HLn := hid hLn
                    clear hNx hLn
                    go_wp2_with fail
                    refine HNx.out.mono ?_
                    rintro e w7 ⟨rfl, hE7⟩
                    have hW7 := hWT.ext hE7
                    have hX7 := hXT.below hE7.below
                    have hb7 : Below w.heap.size w w7 := below_trans' hbT hE7.below
                    have hs7 : w1.heap.size ≤ w7.heap.size := Nat.le_trans hszT hE7.size

                    have HW7 := hid hW7
                    have HX7 := hid hX7
                    have HB7 := hid hb7
                    have HFR := hid hfrT
                    clear hWT hXT hbT hE7 HNx hW7 hX7 hb7 hfrT
                    go_wp2_with fail
                    refine (HLn.out _ HW7.out).mono ?_
                    rintro e w8 ⟨rfl, rfl⟩
                    clear HLn
                    go_wp2
                    all_goals
                      have e0 := HXe.out
                      subst e0
                      go_roundw
                      case rel => exact ⟨n + 1, MT, [], by omega, by go_num, HPT.out, hlenT, HW7.out, ⟨aT, gT, oT, cT, rfl, hcT, HX7.out, hnT⟩, HFR.out, HB7.out, hs7⟩
                      case measure => simp [intOf]; omega
                  · have hpos : 0 < XT.length := by rw [hXe]; simp
                    have hdz : decide ((0 : Int) < (XT.length : Int)) = true := by simpa using hpos
                    have hMne : MT.isEmpty = false := by
                      cases MT with
                      | nil => rw [hXe] at hLT; simp at hLT
                      | cons _ _ => rfl
                    have HPT := hid hPT
                    clear hPT
                    have hNx := Next_any wT p m MT hWT
                    rw [hleT, hMne, hXe] at hNx
                    simp only [List.head?_cons, Option.map_some, Option.getD_some, Bool.not_false] at hNx
                    have hLn := fun W (hW : Wheel W p m MT) => Len_any W p m MT hW
                    rw [hLT] at hLn
                    have hx0 : XT[0]? = some x0 := by rw [hXe]; rfl
                    have HXe := hid hXe
                    clear hXe hMne hleT hLT

                    have HNx := hid hNx
                    have HLn := hid hLn
                    clear hNx hLn
                    go_wp2_with fail
                    refine HNx.out.mono ?_
                    rintro e w7 ⟨rfl, hE7⟩
                    have hW7 := hWT.ext hE7
                    have hX7 := hXT.below hE7.below
                    have hb7 : Below w.heap.size w w7 := below_trans' hbT hE7.below
                    have hs7 : w1.heap.size ≤ w7.heap.size := Nat.le_trans hszT hE7.size

                    have hxi : ∀ W, (Instr.indexAt 26 (.slice aT XT.length cT) (.int .i64 0)).run Try.prog W = .ok (.pointer (some ⟨gT, oT, none⟩)) W := fun W => by
                      have := hX7.index (P := Try.prog) Try.underlying26 sizeT hpos cT W
                      simpa using this
                    have c2 : w7.cell? ⟨gT, oT + 2, none⟩ = some (.int .i64 x0.2) := by simpa using hX7.cells 0 x0 hx0 2 _ rfl
                    generalize x0.2 = y0 at *
                    clear hx0

                    have HW7 := hid hW7
                    have HX7 := hid hX7
                    have HB7 := hid hb7
                    have HFR := hid hfrT
                    clear hWT hXT hbT hE7 HNx hW7 hX7 hb7 hfrT
                    go_wp2_with fail
                    refine (HLn.out _ HW7.out).mono ?_
                    rintro e w8 ⟨rfl, rfl⟩
                    clear HLn
                    go_wp2
                    all_goals
                      go_roundw
                      case rel => exact ⟨n + 1, MT, XT, by omega, by go_num, HPT.out, hlenT, HW7.out, ⟨aT, gT, oT, cT, rfl, hcT, HX7.out, hnT⟩, HFR.out, HB7.out, hs7⟩
                      case measure => simp [intOf]; omega
            · have hz3 := hz
              clear hz
              have hz0 : (z == 0) = false := by simpa using hz1
              have hz1' : (z == 1) = false := by simpa using hz2
              have hz2' : (z == 2) = false := by simpa using hz3
              obtain ⟨wT, rfl⟩ : ∃ wT : World, wT = w3 := ⟨_, rfl⟩
              obtain ⟨MT, hMT⟩ : ∃ MT, MT = M := ⟨_, rfl⟩
              obtain ⟨XT, hXTe⟩ : ∃ XT, XT = X := ⟨_, rfl⟩
              obtain ⟨aT, haT⟩ : ∃ aT, aT = aX := ⟨_, rfl⟩
              obtain ⟨gT, hgT⟩ : ∃ gT, gT = gX := ⟨_, rfl⟩
              obtain ⟨oT, hoT⟩ : ∃ oT, oT = oX := ⟨_, rfl⟩
              obtain ⟨cT, hcTe⟩ : ∃ cT, cT = cX := ⟨_, rfl⟩
              subst hMT hXTe haT hgT hoT hcTe
              have hlenT : XT.length ≤ n + 1 := by omega
              have hPT := hP
              have hWT := hW3
              have hXT := hX3
              have hcT := hcX
              have hnT := hnilX
              have hfrT := hfr
              have hbT := hb3
              have hszT : w1.heap.size ≤ wT.heap.size := by omega
              clear hP hW3 hX3 hb3 hfr hag hah
              go_wp2_with (fail)
              clear f0 f1 f2 f3
              have hLT := hPT.len
              have hleT := hPT.least
              have hcase : XT = [] ∨ ∃ x0 r0, XT = x0 :: r0 := by
                cases XT with
                | nil => exact Or.inl rfl
                | cons a r => exact Or.inr ⟨a, r, rfl⟩
              rcases hcase with hXe | ⟨x0, r0, hXe⟩
              · have hME : MT = [] := by rw [hXe] at hPT; exact List.perm_nil.1 hPT.perm
                have hnz : ¬ (0 : Int) < (XT.length : Int) := by rw [hXe]; simp
                have hdz : decide ((0 : Int) < (XT.length : Int)) = false := by simpa using hnz
                have HPT := hid hPT
                clear hPT
                have hNx := Next_any wT p m MT hWT
                rw [hleT, hXe, hME] at hNx
                simp only [List.head?_nil, Option.map_none, Option.getD_none, List.isEmpty_nil, Bool.not_true] at hNx
                have hLn := fun W (hW : Wheel W p m MT) => Len_any W p m MT hW
                rw [hLT] at hLn
                have HXe := hid hXe
                have HME := hid hME
                clear hXe hME hleT hLT

                have HNx := hid hNx
                have HLn := hid hLn
                clear hNx hLn
                go_wp2_with fail
                refine HNx.out.mono ?_
                rintro e w7 ⟨rfl, hE7⟩
                have hW7 := hWT.ext hE7
                have hX7 := hXT.below hE7.below
                have hb7 : Below w.heap.size w w7 := below_trans' hbT hE7.below
                have hs7 : w1.heap.size ≤ w7.heap.size := Nat.le_trans hszT hE7.size

                have HW7 := hid hW7
                have HX7 := hid hX7
                have HB7 := hid hb7
                have HFR := hid hfrT
                clear hWT hXT hbT hE7 HNx hW7 hX7 hb7 hfrT
                go_wp2_with fail
                refine (HLn.out _ HW7.out).mono ?_
                rintro e w8 ⟨rfl, rfl⟩
                clear HLn
                go_wp2
                all_goals
                  have e0 := HXe.out
                  subst e0
                  go_roundw
                  case rel => exact ⟨n + 1, MT, [], by omega, by go_num, HPT.out, hlenT, HW7.out, ⟨aT, gT, oT, cT, rfl, hcT, HX7.out, hnT⟩, HFR.out, HB7.out, hs7⟩
                  case measure => simp [intOf]; omega
              · have hpos : 0 < XT.length := by rw [hXe]; simp
                have hdz : decide ((0 : Int) < (XT.length : Int)) = true := by simpa using hpos
                have hMne : MT.isEmpty = false := by
                  cases MT with
                  | nil => rw [hXe] at hLT; simp at hLT
                  | cons _ _ => rfl
                have HPT := hid hPT
                clear hPT
                have hNx := Next_any wT p m MT hWT
                rw [hleT, hMne, hXe] at hNx
                simp only [List.head?_cons, Option.map_some, Option.getD_some, Bool.not_false] at hNx
                have hLn := fun W (hW : Wheel W p m MT) => Len_any W p m MT hW
                rw [hLT] at hLn
                have hx0 : XT[0]? = some x0 := by rw [hXe]; rfl
                have HXe := hid hXe
                clear hXe hMne hleT hLT

                have HNx := hid hNx
                have HLn := hid hLn
                clear hNx hLn
                go_wp2_with fail
                refine HNx.out.mono ?_
                rintro e w7 ⟨rfl, hE7⟩
                have hW7 := hWT.ext hE7
                have hX7 := hXT.below hE7.below
                have hb7 : Below w.heap.size w w7 := below_trans' hbT hE7.below
                have hs7 : w1.heap.size ≤ w7.heap.size := Nat.le_trans hszT hE7.size

                have hxi : ∀ W, (Instr.indexAt 26 (.slice aT XT.length cT) (.int .i64 0)).run Try.prog W = .ok (.pointer (some ⟨gT, oT, none⟩)) W := fun W => by
                  have := hX7.index (P := Try.prog) Try.underlying26 sizeT hpos cT W
                  simpa using this
                have c2 : w7.cell? ⟨gT, oT + 2, none⟩ = some (.int .i64 x0.2) := by simpa using hX7.cells 0 x0 hx0 2 _ rfl
                generalize x0.2 = y0 at *
                clear hx0

                have HW7 := hid hW7
                have HX7 := hid hX7
                have HB7 := hid hb7
                have HFR := hid hfrT
                clear hWT hXT hbT hE7 HNx hW7 hX7 hb7 hfrT
                go_wp2_with fail
                refine (HLn.out _ HW7.out).mono ?_
                rintro e w8 ⟨rfl, rfl⟩
                clear HLn
                go_wp2
                all_goals
                  go_roundw
                  case rel => exact ⟨n + 1, MT, XT, by omega, by go_num, HPT.out, hlenT, HW7.out, ⟨aT, gT, oT, cT, rfl, hcT, HX7.out, hnT⟩, HFR.out, HB7.out, hs7⟩
                  case measure => simp [intOf]; omega
      · rw [hF] at heF
        rw [hG] at hag hah
        subst heF
        have hxq := hX2.index (P := Try.prog) Try.underlying26 sizeT hq cX
        generalize hv : X[q].2 = xv at *
        have c2 := fun W (hX : RdS encT 3 W aX gX oX X) => RdT2 hX hq
        simp only [hv] at c2
        clear hv
        go_wp2_with fail
        refine (At_any _ p m M i hW2).mono ?_
        rintro e w3 ⟨heA, hE3⟩
        rw [hag, hah] at heA
        have heA' : e = .returned (.tuple #[.int .i64 xv, .bool true]) := heA
        clear heA hF hG
        subst heA'
        have hW3 := hW2.ext hE3
        have hX3 := hX2.below hE3.below
        have hb3 : Below w.heap.size w w3 := below_trans' hb2 hE3.below
        replace f0 := (hE3.keeps (S := fun _ => False)).cell (fun h => h) f0
        replace f1 := (hE3.keeps (S := fun _ => False)).cell (fun h => h) f1
        replace f2 := (hE3.keeps (S := fun _ => False)).cell (fun h => h) f2
        replace f3 := (hE3.keeps (S := fun _ => False)).cell (fun h => h) f3
        have hs3 : wr.heap.size < w3.heap.size := by have := hE3.size; omega
        clear hW2 hX2 hb2 hE3 hs2
        have cq := c2 w3 hX3
        clear c2
        have hq0 : (0 : Int) ≤ (q : Int) := by omega
        by_cases hz : z = 0
        · have hzn : (z == 0) = true := by simpa using hz
          subst hz
          clear hzn
          go_wp2_with fail
          refine (Set_any _ p m M i t hW3).mono ?_
          rintro e w4 ⟨rfl, hW4, hk4⟩
          have hX4 := RdS.keeps (S := (· = m)) hX3 hk4 hgX
          replace f0 := hk4.cell (by omega) f0
          replace f1 := hk4.cell (by omega) f1
          replace f2 := hk4.cell (by omega) f2
          replace f3 := hk4.cell (by omega) f3
          have hb4 := below_of hb3 hk4 hmw
          have hs4 : wr.heap.size < w4.heap.size := by have := hk4.size; omega
          clear hW3 hX3 hb3 hk4 hs3
          go_wp2_with fail
          refine (RefSet_any _ aX gX oX cX X (i, t) hX4 (by omega)).mono ?_
          rintro e wT ⟨v5, rfl, hown, hb5⟩
          have hPT := hP.set i t
          have hlenT : (setT X (i, t)).length ≤ n + 1 := by
            have h1 : (insT (adel X i) (i, t)).length = (adel X i).length + 1 := (insT_perm (i, t) (adel X i)).length_eq
            have h2 : (adel X i).length ≤ X.length := List.length_filter_le _ _
            show (insT (adel X i) (i, t)).length ≤ n + 1
            omega
          obtain ⟨MT, hMT⟩ : ∃ MT, MT = aput M i t := ⟨_, rfl⟩
          obtain ⟨XT, hXTe⟩ : ∃ XT, XT = setT X (i, t) := ⟨_, rfl⟩
          have hWT : Wheel wT p m MT := by rw [hMT]; exact hW4.kept (below_keeps (S := fun _ => False) hb5) (fun h => h) (fun h => h)
          rw [← hMT, ← hXTe] at hPT
          rw [← hXTe] at hlenT hown
          have hbT : Below w.heap.size w wT := below_trans' hb4 hb5
          have hszT : w1.heap.size ≤ wT.heap.size := by have := hb5.size; omega
          have hfrT : ∀ g, v5.ownBlock = some g → w1.heap.size ≤ g := fun g hg => by have := (hown.lt g hg).1; omega
          clear hMT hXTe hW4 hX4 hb4 hb5 hP hag hah

          obtain ⟨aT, gT, oT, cT, hvT, hcT, hXT, hnT⟩ := Owns.rd encT_len hown
          subst hvT
          clear f0 f1 f2 f3
          have hLT := hPT.len
          have hleT := hPT.least
          have hcase : XT = [] ∨ ∃ x0 r0, XT = x0 :: r0 := by
            cases XT with
            | nil => exact Or.inl rfl
            | cons a r => exact Or.inr ⟨a, r, rfl⟩
          rcases hcase with hXe | ⟨x0, r0, hXe⟩
          · have hME : MT = [] := by rw [hXe] at hPT; exact List.perm_nil.1 hPT.perm
            have hnz : ¬ (0 : Int) < (XT.length : Int) := by rw [hXe]; simp
            have hdz : decide ((0 : Int) < (XT.length : Int)) = false := by simpa using hnz
            have HPT := hid hPT
            clear hPT
            have hNx := Next_any wT p m MT hWT
            rw [hleT, hXe, hME] at hNx
            simp only [List.head?_nil, Option.map_none, Option.getD_none, List.isEmpty_nil, Bool.not_true] at hNx
            have hLn := fun W (hW : Wheel W p m MT) => Len_any W p m MT hW
            rw [hLT] at hLn
            have HXe := hid hXe
            have HME := hid hME
            clear hXe hME hleT hLT

            have HNx := hid hNx
            have HLn := hid hLn
            clear hNx hLn
            go_wp2_with fail
            refine HNx.out.mono ?_
            rintro e w7 ⟨rfl, hE7⟩
            have hW7 := hWT.ext hE7
            have hX7 := hXT.below hE7.below
            have hb7 : Below w.heap.size w w7 := below_trans' hbT hE7.below
            have hs7 : w1.heap.size ≤ w7.heap.size := Nat.le_trans hszT hE7.size

            have HW7 := hid hW7
            have HX7 := hid hX7
            have HB7 := hid hb7
            have HFR := hid hfrT
            clear hWT hXT hbT hE7 HNx hW7 hX7 hb7 hfrT
            go_wp2_with fail
            refine (HLn.out _ HW7.out).mono ?_
            rintro e w8 ⟨rfl, rfl⟩
            clear HLn
            go_wp2
            all_goals
              have e0 := HXe.out
              subst e0
              go_roundw
              case rel => exact ⟨n + 1, MT, [], by omega, by go_num, HPT.out, hlenT, HW7.out, ⟨aT, gT, oT, cT, rfl, hcT, HX7.out, hnT⟩, HFR.out, HB7.out, hs7⟩
              case measure => simp [intOf]; omega
          · have hpos : 0 < XT.length := by rw [hXe]; simp
            have hdz : decide ((0 : Int) < (XT.length : Int)) = true := by simpa using hpos
            have hMne : MT.isEmpty = false := by
              cases MT with
              | nil => rw [hXe] at hLT; simp at hLT
              | cons _ _ => rfl
            have HPT := hid hPT
            clear hPT
            have hNx := Next_any wT p m MT hWT
            rw [hleT, hMne, hXe] at hNx
            simp only [List.head?_cons, Option.map_some, Option.getD_some, Bool.not_false] at hNx
            have hLn := fun W (hW : Wheel W p m MT) => Len_any W p m MT hW
            rw [hLT] at hLn
            have hx0 : XT[0]? = some x0 := by rw [hXe]; rfl
            have HXe := hid hXe
            clear hXe hMne hleT hLT

            have HNx := hid hNx
            have HLn := hid hLn
            clear hNx hLn
            go_wp2_with fail
            refine HNx.out.mono ?_
            rintro e w7 ⟨rfl, hE7⟩
            have hW7 := hWT.ext hE7
            have hX7 := hXT.below hE7.below
            have hb7 : Below w.heap.size w w7 := below_trans' hbT hE7.below
            have hs7 : w1.heap.size ≤ w7.heap.size := Nat.le_trans hszT hE7.size

            have hxi : ∀ W, (Instr.indexAt 26 (.slice aT XT.length cT) (.int .i64 0)).run Try.prog W = .ok (.pointer (some ⟨gT, oT, none⟩)) W := fun W => by
              have := hX7.index (P := Try.prog) Try.underlying26 sizeT hpos cT W
              simpa using this
            have c2 : w7.cell? ⟨gT, oT + 2, none⟩ = some (.int .i64 x0.2) := by simpa using hX7.cells 0 x0 hx0 2 _ rfl
            generalize x0.2 = y0 at *
            clear hx0

            have HW7 := hid hW7
            have HX7 := hid hX7
            have HB7 := hid hb7
            have HFR := hid hfrT
            clear hWT hXT hbT hE7 HNx hW7 hX7 hb7 hfrT
            go_wp2_with fail
            refine (HLn.out _ HW7.out).mono ?_
            rintro e w8 ⟨rfl, rfl⟩
            clear HLn
            go_wp2
            all_goals
              go_roundw
              case rel => exact ⟨n + 1, MT, XT, by omega, by go_num, HPT.out, hlenT, HW7.out, ⟨aT, gT, oT, cT, rfl, hcT, HX7.out, hnT⟩, HFR.out, HB7.out, hs7⟩
              case measure => simp [intOf]; omega
        · have hz1 := hz
          clear hz
          by_cases hz : z = 1
          · clear hz1
            have hzn : (z == 0) = false := by rw [hz]; rfl
            subst hz
            clear hzn
            have hCa := Cancel_any w3 p m M i hW3
            rw [hah] at hCa
            simp only [Option.isSome_none, Option.isSome_some] at hCa
            have HCa := hid hCa
            clear hCa
            go_wp2_with fail
            refine HCa.out.mono ?_
            rintro e w4 ⟨rfl, hW4, hk4⟩
            have hX4 := RdS.keeps (S := (· = m)) hX3 hk4 hgX
            replace f0 := hk4.cell (by omega) f0
            replace f1 := hk4.cell (by omega) f1
            replace f2 := hk4.cell (by omega) f2
            replace f3 := hk4.cell (by omega) f3
            have hb4 := below_of hb3 hk4 hmw
            have hs4 : wr.heap.size < w4.heap.size := by have := hk4.size; omega
            clear hW3 hX3 hb3 hk4 hs3 HCa
            go_wp2_with fail
            refine (RefOut_any _ aX gX oX cX X i hX4 (by omega)).mono ?_
            rintro e wT ⟨v5, rfl, hown, hb5⟩
            have hPT := hP.del i
            have hlenT : (adel X i).length ≤ n + 1 := by
              have h2 : (adel X i).length ≤ X.length := List.length_filter_le _ _
              omega
            obtain ⟨MT, hMT⟩ : ∃ MT, MT = adel M i := ⟨_, rfl⟩
            obtain ⟨XT, hXTe⟩ : ∃ XT, XT = adel X i := ⟨_, rfl⟩
            have hWT : Wheel wT p m MT := by rw [hMT]; exact hW4.kept (below_keeps (S := fun _ => False) hb5) (fun h => h) (fun h => h)
            rw [← hMT, ← hXTe] at hPT
            rw [← hXTe] at hlenT hown
            have hbT : Below w.heap.size w wT := below_trans' hb4 hb5
            have hszT : w1.heap.size ≤ wT.heap.size := by have := hb5.size; omega
            have hfrT : ∀ g, v5.ownBlock = some g → w1.heap.size ≤ g := fun g hg => by have := (hown.lt g hg).1; omega
            clear hMT hXTe hW4 hX4 hb4 hb5 hP hag hah

            obtain ⟨aT, gT, oT, cT, hvT, hcT, hXT, hnT⟩ := Owns.rd encT_len hown
            subst hvT
            clear f0 f1 f2 f3
            have hLT := hPT.len
            have hleT := hPT.least
            have hcase : XT = [] ∨ ∃ x0 r0, XT = x0 :: r0 := by
              cases XT with
              | nil => exact Or.inl rfl
              | cons a r => exact Or.inr ⟨a, r, rfl⟩
            rcases hcase with hXe | ⟨x0, r0, hXe⟩
            · have hME : MT = [] := by rw [hXe] at hPT; exact List.perm_nil.1 hPT.perm
              have hnz : ¬ (0 : Int) < (XT.length : Int) := by rw [hXe]; simp
              have hdz : decide ((0 : Int) < (XT.length : Int)) = false := by simpa using hnz
              have HPT := hid hPT
              clear hPT
              have hNx := Next_any wT p m MT hWT
              rw [hleT, hXe, hME] at hNx
              simp only [List.head?_nil, Option.map_none, Option.getD_none, List.isEmpty_nil, Bool.not_true] at hNx
              have hLn := fun W (hW : Wheel W p m MT) => Len_any W p m MT hW
              rw [hLT] at hLn
              have HXe := hid hXe
              have HME := hid hME
              clear hXe hME hleT hLT

              have HNx := hid hNx
              have HLn := hid hLn
              clear hNx hLn
              go_wp2_with fail
              refine HNx.out.mono ?_
              rintro e w7 ⟨rfl, hE7⟩
              have hW7 := hWT.ext hE7
              have hX7 := hXT.below hE7.below
              have hb7 : Below w.heap.size w w7 := below_trans' hbT hE7.below
              have hs7 : w1.heap.size ≤ w7.heap.size := Nat.le_trans hszT hE7.size

              have HW7 := hid hW7
              have HX7 := hid hX7
              have HB7 := hid hb7
              have HFR := hid hfrT
              clear hWT hXT hbT hE7 HNx hW7 hX7 hb7 hfrT
              go_wp2_with fail
              refine (HLn.out _ HW7.out).mono ?_
              rintro e w8 ⟨rfl, rfl⟩
              clear HLn
              go_wp2
              all_goals
                have e0 := HXe.out
                subst e0
                go_roundw
                case rel => exact ⟨n + 1, MT, [], by omega, by go_num, HPT.out, hlenT, HW7.out, ⟨aT, gT, oT, cT, rfl, hcT, HX7.out, hnT⟩, HFR.out, HB7.out, hs7⟩
                case measure => simp [intOf]; omega
            · have hpos : 0 < XT.length := by rw [hXe]; simp
              have hdz : decide ((0 : Int) < (XT.length : Int)) = true := by simpa using hpos
              have hMne : MT.isEmpty = false := by
                cases MT with
                | nil => rw [hXe] at hLT; simp at hLT
                | cons _ _ => rfl
              have HPT := hid hPT
              clear hPT
              have hNx := Next_any wT p m MT hWT
              rw [hleT, hMne, hXe] at hNx
              simp only [List.head?_cons, Option.map_some, Option.getD_some, Bool.not_false] at hNx
              have hLn := fun W (hW : Wheel W p m MT) => Len_any W p m MT hW
              rw [hLT] at hLn
              have hx0 : XT[0]? = some x0 := by rw [hXe]; rfl
              have HXe := hid hXe
              clear hXe hMne hleT hLT

              have HNx := hid hNx
              have HLn := hid hLn
              clear hNx hLn
              go_wp2_with fail
              refine HNx.out.mono ?_
              rintro e w7 ⟨rfl, hE7⟩
              have hW7 := hWT.ext hE7
              have hX7 := hXT.below hE7.below
              have hb7 : Below w.heap.size w w7 := below_trans' hbT hE7.below
              have hs7 : w1.heap.size ≤ w7.heap.size := Nat.le_trans hszT hE7.size

              have hxi : ∀ W, (Instr.indexAt 26 (.slice aT XT.length cT) (.int .i64 0)).run Try.prog W = .ok (.pointer (some ⟨gT, oT, none⟩)) W := fun W => by
                have := hX7.index (P := Try.prog) Try.underlying26 sizeT hpos cT W
                simpa using this
              have c2 : w7.cell? ⟨gT, oT + 2, none⟩ = some (.int .i64 x0.2) := by simpa using hX7.cells 0 x0 hx0 2 _ rfl
              generalize x0.2 = y0 at *
              clear hx0

              have HW7 := hid hW7
              have HX7 := hid hX7
              have HB7 := hid hb7
              have HFR := hid hfrT
              clear hWT hXT hbT hE7 HNx hW7 hX7 hb7 hfrT
              go_wp2_with fail
              refine (HLn.out _ HW7.out).mono ?_
              rintro e w8 ⟨rfl, rfl⟩
              clear HLn
              go_wp2
              all_goals
                go_roundw
                case rel => exact ⟨n + 1, MT, XT, by omega, by go_num, HPT.out, hlenT, HW7.out, ⟨aT, gT, oT, cT, rfl, hcT, HX7.out, hnT⟩, HFR.out, HB7.out, hs7⟩
                case measure => simp [intOf]; omega
          · have hz2 := hz
            clear hz
            by_cases hz : z = 2
            · clear hz1 hz2
              have hzn : (z == 0) = false := by rw [hz]; rfl
              subst hz
              clear hzn
              go_wp2_with fail
              refine (Due_any _ p m M t hW3 (by rw [hP.len]; omega)).mono ?_
              rintro e w4 ⟨v4, out, rfl, hcol, hown, hW4, hk4⟩
              have hX4 := RdS.keeps (S := (· = m)) hX3 hk4 hgX
              replace f0 := hk4.cell (by omega) f0
              replace f1 := hk4.cell (by omega) f1
              replace f2 := hk4.cell (by omega) f2
              replace f3 := hk4.cell (by omega) f3
              have hb4 := below_of hb3 hk4 hmw
              have hs4 : wr.heap.size < w4.heap.size := by have := hk4.size; omega
              rw [hP.due hcol] at hown hW4
              have hPT := hP.drop (dueT X t)
              have hnT := dueT_le X t
              have hRD := fun W (hX : RdS encT 3 W aX gX oX X) => RefDue_any W aX gX oX cX X t hX (by omega)
              generalize dueT X t = q2 at *
              obtain ⟨aD, gD, oD, cD, hvD, hcD, hrD, hnD⟩ := Owns.rd encId_len hown
              subst hvD
              have hlD : ((X.take q2).map (·.1)).length = q2 := by simp; omega
              have hDg : ∀ j, j < q2 → ∀ x, X[j]? = some x → ((X.take q2).map (·.1))[j]? = some x.1 := fun j hj x hx => by
                rw [List.getElem?_map, List.getElem?_take, if_pos hj, hx]; rfl
              obtain ⟨D, hD⟩ : ∃ D, D = (X.take q2).map (·.1) := ⟨_, rfl⟩
              rw [← hD] at hW4 hrD hlD hDg hcD hPT
              rw [← hD]
              rw [hlD]
              have hDi := fun (k : Nat) (hk : k < q2) => hrD.index (P := Try.prog) Try.underlying40 sizeId (i := k) (by omega) cD
              rw [hlD] at hDi
              have HRD := hid hRD
              have HDI := hid hDi
              have HDG := hid hDg
              have HPT := hid hPT
              have HLD := hid hlD
              clear hW3 hX3 hb3 hk4 hs3 hcol hown hD hRD hDi hDg hPT hlD
              go_wp2_with fail
              refine (HRD.out _ hX4).mono ?_
              rintro e w5 ⟨rfl, hE5⟩
              have hW5 := hW4.ext hE5
              have hX5 := hX4.below hE5.below
              have hD5 := hrD.below hE5.below
              have hb5 : Below w.heap.size w w5 := below_trans' hb4 hE5.below
              have hs5 : wr.heap.size < w5.heap.size := by have := hE5.size; omega
              clear hW4 hX4 hrD hb4 hE5 hs4 HRD f0 f1 f2 f3
              go_wp2_with fail
              go_loopw [12] (fun s12 wq => ∃ j : Nat, j ≤ q2 ∧ s12 = .int .i64 j ∧ Ext w5 wq) (fun s12 _ => q2 - (intOf s12).toNat)
              case atStart => exact ⟨0, Nat.zero_le _, rfl, Ext.refl _⟩
              case round =>
                obtain ⟨j, hj, rfl, hEq⟩ := hrel
                by_cases hjl : j < q2
                · have hD6 := hD5.below hEq.below
                  have hX6 := hX5.below hEq.below
                  have hjX : j < X.length := by omega
                  have hxg : X[j]? = some X[j] := by simp [hjX]
                  have hdg := HDG.out j hjl _ hxg
                  have hi1 := HDI.out j hjl
                  have hi2 := hX6.index (P := Try.prog) Try.underlying26 sizeT hjX cX
                  have c0 := RdT0 hX6 hjX
                  have c1 := RdT1 hX6 hjX
                  generalize X[j] = x at *
                  have d0 : wr.cell? ⟨gD, oD + j * 2, none⟩ = some (.int .i64 x.1.r) := hD6.cells j x.1 hdg 0 _ rfl
                  have d1 : wr.cell? ⟨gD, oD + j * 2 + 1, none⟩ = some (.int .i64 x.1.n) := hD6.cells j x.1 hdg 1 _ rfl
                  have hne := run_neq_id x.1 x.1
                  rw [show decide (x.1 = x.1) = true by simp] at hne
                  have HE := hid hEq
                  clear hxg hdg hD6 hX6 hEq
                  go_wp2
                  go_quiet (fail)
                  go_wp2
                  go_roundw
                  case rel => exact ⟨j + 1, by omega, by go_num, HE.out.drewN _⟩
                  case measure => simp [intOf]; omega
                · have hj2 : j = q2 := by omega
                  subst hj2
                  obtain ⟨wT, rfl⟩ : ∃ wT : World, wT = wr := ⟨_, rfl⟩
                  obtain ⟨vT, hsl1, hsl2, hrdT, hobT⟩ := hX5.drop (P := Try.prog) Try.underlying26 sizeT hnT hcX hnilX
                  clear hnT
                  have hlenT : (X.drop j).length ≤ n + 1 := by simp; omega
                  have hWT : Wheel wT p m (D.foldl adel M) := hW5.ext hEq
                  have hrdT2 := hrdT.ext hEq
                  have hbT : Below w.heap.size w wT := below_trans' hb5 hEq.below
                  have hszT : w1.heap.size ≤ wT.heap.size := by have := hEq.size; omega
                  have hfrT : ∀ g, vT.ownBlock = some g → w1.heap.size ≤ g := fun g hg => hfr g (hobT g hg)
                  have hPT := HPT.out
                  obtain ⟨MT, hMT⟩ : ∃ MT, MT = D.foldl adel M := ⟨_, rfl⟩
                  obtain ⟨XT, hXTe⟩ : ∃ XT, XT = X.drop j := ⟨_, rfl⟩
                  rw [← hMT, ← hXTe] at hPT
                  rw [← hMT] at hWT
                  rw [← hXTe] at hlenT hrdT2
                  obtain ⟨aT, gT, oT, cT, hvT, hcT, hXT, hnT⟩ := hrdT2
                  subst hvT
                  clear hMT hXTe hrdT hobT hEq hb5 hX5 hD5 hW5 HPT HDI HDG
                  have f0 : True := trivial
                  have f1 : True := trivial
                  have f2 : True := trivial
                  have f3 : True := trivial
                  clear f0 f1 f2 f3
                  have hLT := hPT.len
                  have hleT := hPT.least
                  have hcase : XT = [] ∨ ∃ x0 r0, XT = x0 :: r0 := by
                    cases XT with
                    | nil => exact Or.inl rfl
                    | cons a r => exact Or.inr ⟨a, r, rfl⟩
                  rcases hcase with hXe | ⟨x0, r0, hXe⟩
                  · have hME : MT = [] := by rw [hXe] at hPT; exact List.perm_nil.1 hPT.perm
                    have hnz : ¬ (0 : Int) < (XT.length : Int) := by rw [hXe]; simp
                    have hdz : decide ((0 : Int) < (XT.length : Int)) = false := by simpa using hnz
                    have HPT := hid hPT
                    clear hPT
                    have hNx := Next_any wT p m MT hWT
                    rw [hleT, hXe, hME] at hNx
                    simp only [List.head?_nil, Option.map_none, Option.getD_none, List.isEmpty_nil, Bool.not_true] at hNx
                    have hLn := fun W (hW : Wheel W p m MT) => Len_any W p m MT hW
                    rw [hLT] at hLn
                    have HXe := hid hXe
                    have HME := hid hME
                    clear hXe hME hleT hLT

                    have HNx := hid hNx
                    have HLn := hid hLn
                    clear hNx hLn
                    go_wp2_with fail
                    refine HNx.out.mono ?_
                    rintro e w7 ⟨rfl, hE7⟩
                    have hW7 := hWT.ext hE7
                    have hX7 := hXT.below hE7.below
                    have hb7 : Below w.heap.size w w7 := below_trans' hbT hE7.below
                    have hs7 : w1.heap.size ≤ w7.heap.size := Nat.le_trans hszT hE7.size

                    have HW7 := hid hW7
                    have HX7 := hid hX7
                    have HB7 := hid hb7
                    have HFR := hid hfrT
                    clear hWT hXT hbT hE7 HNx hW7 hX7 hb7 hfrT
                    go_wp2_with fail
                    refine (HLn.out _ HW7.out).mono ?_
                    rintro e w8 ⟨rfl, rfl⟩
                    clear HLn
                    go_wp2
                    all_goals
                      have e0 := HXe.out
                      subst e0
                      go_roundw
                      case rel => exact ⟨n + 1, MT, [], by omega, by go_num, HPT.out, hlenT, HW7.out, ⟨aT, gT, oT, cT, rfl, hcT, HX7.out, hnT⟩, HFR.out, HB7.out, hs7⟩
                      case measure => simp [intOf]; omega
                  · have hpos : 0 < XT.length := by rw [hXe]; simp
                    have hdz : decide ((0 : Int) < (XT.length : Int)) = true := by simpa using hpos
                    have hMne : MT.isEmpty = false := by
                      cases MT with
                      | nil => rw [hXe] at hLT; simp at hLT
                      | cons _ _ => rfl
                    have HPT := hid hPT
                    clear hPT
                    have hNx := Next_any wT p m MT hWT
                    rw [hleT, hMne, hXe] at hNx
                    simp only [List.head?_cons, Option.map_some, Option.getD_some, Bool.not_false] at hNx
                    have hLn := fun W (hW : Wheel W p m MT) => Len_any W p m MT hW
                    rw [hLT] at hLn
                    have hx0 : XT[0]? = some x0 := by rw [hXe]; rfl
                    have HXe := hid hXe
                    clear hXe hMne hleT hLT

                    have HNx := hid hNx
                    have HLn := hid hLn
                    clear hNx hLn
                    go_wp2_with fail
                    refine HNx.out.mono ?_
                    rintro e w7 ⟨rfl, hE7⟩
                    have hW7 := hWT.ext hE7
                    have hX7 := hXT.below hE7.below
                    have hb7 : Below w.heap.size w w7 := below_trans' hbT hE7.below
                    have hs7 : w1.heap.size ≤ w7.heap.size := Nat.le_trans hszT hE7.size

                    have hxi : ∀ W, (Instr.indexAt 26 (.slice aT XT.length cT) (.int .i64 0)).run Try.prog W = .ok (.pointer (some ⟨gT, oT, none⟩)) W := fun W => by
                      have := hX7.index (P := Try.prog) Try.underlying26 sizeT hpos cT W
                      simpa using this
                    have c2 : w7.cell? ⟨gT, oT + 2, none⟩ = some (.int .i64 x0.2) := by simpa using hX7.cells 0 x0 hx0 2 _ rfl
                    generalize x0.2 = y0 at *
                    clear hx0

                    have HW7 := hid hW7
                    have HX7 := hid hX7
                    have HB7 := hid hb7
                    have HFR := hid hfrT
                    clear hWT hXT hbT hE7 HNx hW7 hX7 hb7 hfrT
                    go_wp2_with fail
                    refine (HLn.out _ HW7.out).mono ?_
                    rintro e w8 ⟨rfl, rfl⟩
                    clear HLn
                    go_wp2
                    all_goals
                      go_roundw
                      case rel => exact ⟨n + 1, MT, XT, by omega, by go_num, HPT.out, hlenT, HW7.out, ⟨aT, gT, oT, cT, rfl, hcT, HX7.out, hnT⟩, HFR.out, HB7.out, hs7⟩
                      case measure => simp [intOf]; omega
            · have hz3 := hz
              clear hz
              have hz0 : (z == 0) = false := by simpa using hz1
              have hz1' : (z == 1) = false := by simpa using hz2
              have hz2' : (z == 2) = false := by simpa using hz3
              obtain ⟨wT, rfl⟩ : ∃ wT : World, wT = w3 := ⟨_, rfl⟩
              obtain ⟨MT, hMT⟩ : ∃ MT, MT = M := ⟨_, rfl⟩
              obtain ⟨XT, hXTe⟩ : ∃ XT, XT = X := ⟨_, rfl⟩
              obtain ⟨aT, haT⟩ : ∃ aT, aT = aX := ⟨_, rfl⟩
              obtain ⟨gT, hgT⟩ : ∃ gT, gT = gX := ⟨_, rfl⟩
              obtain ⟨oT, hoT⟩ : ∃ oT, oT = oX := ⟨_, rfl⟩
              obtain ⟨cT, hcTe⟩ : ∃ cT, cT = cX := ⟨_, rfl⟩
              subst hMT hXTe haT hgT hoT hcTe
              have hlenT : XT.length ≤ n + 1 := by omega
              have hPT := hP
              have hWT := hW3
              have hXT := hX3
              have hcT := hcX
              have hnT := hnilX
              have hfrT := hfr
              have hbT := hb3
              have hszT : w1.heap.size ≤ wT.heap.size := by omega
              clear hP hW3 hX3 hb3 hfr hag hah
              go_wp2_with (fail)
              clear f0 f1 f2 f3
              have hLT := hPT.len
              have hleT := hPT.least
              have hcase : XT = [] ∨ ∃ x0 r0, XT = x0 :: r0 := by
                cases XT with
                | nil => exact Or.inl rfl
                | cons a r => exact Or.inr ⟨a, r, rfl⟩
              rcases hcase with hXe | ⟨x0, r0, hXe⟩
              · have hME : MT = [] := by rw [hXe] at hPT; exact List.perm_nil.1 hPT.perm
                have hnz : ¬ (0 : Int) < (XT.length : Int) := by rw [hXe]; simp
                have hdz : decide ((0 : Int) < (XT.length : Int)) = false := by simpa using hnz
                have HPT := hid hPT
                clear hPT
                have hNx := Next_any wT p m MT hWT
                rw [hleT, hXe, hME] at hNx
                simp only [List.head?_nil, Option.map_none, Option.getD_none, List.isEmpty_nil, Bool.not_true] at hNx
                have hLn := fun W (hW : Wheel W p m MT) => Len_any W p m MT hW
                rw [hLT] at hLn
                have HXe := hid hXe
                have HME := hid hME
                clear hXe hME hleT hLT

                have HNx := hid hNx
                have HLn := hid hLn
                clear hNx hLn
                go_wp2_with fail
                refine HNx.out.mono ?_
                rintro e w7 ⟨rfl, hE7⟩
                have hW7 := hWT.ext hE7
                have hX7 := hXT.below hE7.below
                have hb7 : Below w.heap.size w w7 := below_trans' hbT hE7.below
                have hs7 : w1.heap.size ≤ w7.heap.size := Nat.le_trans hszT hE7.size

                have HW7 := hid hW7
                have HX7 := hid hX7
                have HB7 := hid hb7
                have HFR := hid hfrT
                clear hWT hXT hbT hE7 HNx hW7 hX7 hb7 hfrT
                go_wp2_with fail
                refine (HLn.out _ HW7.out).mono ?_
                rintro e w8 ⟨rfl, rfl⟩
                clear HLn
                go_wp2
                all_goals
                  have e0 := HXe.out
                  subst e0
                  go_roundw
                  case rel => exact ⟨n + 1, MT, [], by omega, by go_num, HPT.out, hlenT, HW7.out, ⟨aT, gT, oT, cT, rfl, hcT, HX7.out, hnT⟩, HFR.out, HB7.out, hs7⟩
                  case measure => simp [intOf]; omega
              · have hpos : 0 < XT.length := by rw [hXe]; simp
                have hdz : decide ((0 : Int) < (XT.length : Int)) = true := by simpa using hpos
                have hMne : MT.isEmpty = false := by
                  cases MT with
                  | nil => rw [hXe] at hLT; simp at hLT
                  | cons _ _ => rfl
                have HPT := hid hPT
                clear hPT
                have hNx := Next_any wT p m MT hWT
                rw [hleT, hMne, hXe] at hNx
                simp only [List.head?_cons, Option.map_some, Option.getD_some, Bool.not_false] at hNx
                have hLn := fun W (hW : Wheel W p m MT) => Len_any W p m MT hW
                rw [hLT] at hLn
                have hx0 : XT[0]? = some x0 := by rw [hXe]; rfl
                have HXe := hid hXe
                clear hXe hMne hleT hLT

                have HNx := hid hNx
                have HLn := hid hLn
                clear hNx hLn
                go_wp2_with fail
                refine HNx.out.mono ?_
                rintro e w7 ⟨rfl, hE7⟩
                have hW7 := hWT.ext hE7
                have hX7 := hXT.below hE7.below
                have hb7 : Below w.heap.size w w7 := below_trans' hbT hE7.below
                have hs7 : w1.heap.size ≤ w7.heap.size := Nat.le_trans hszT hE7.size

                have hxi : ∀ W, (Instr.indexAt 26 (.slice aT XT.length cT) (.int .i64 0)).run Try.prog W = .ok (.pointer (some ⟨gT, oT, none⟩)) W := fun W => by
                  have := hX7.index (P := Try.prog) Try.underlying26 sizeT hpos cT W
                  simpa using this
                have c2 : w7.cell? ⟨gT, oT + 2, none⟩ = some (.int .i64 x0.2) := by simpa using hX7.cells 0 x0 hx0 2 _ rfl
                generalize x0.2 = y0 at *
                clear hx0

                have HW7 := hid hW7
                have HX7 := hid hX7
                have HB7 := hid hb7
                have HFR := hid hfrT
                clear hWT hXT hbT hE7 HNx hW7 hX7 hb7 hfrT
                go_wp2_with fail
                refine (HLn.out _ HW7.out).mono ?_
                rintro e w8 ⟨rfl, rfl⟩
                clear HLn
                go_wp2
                all_goals
                  go_roundw
                  case rel => exact ⟨n + 1, MT, XT, by omega, by go_num, HPT.out, hlenT, HW7.out, ⟨aT, gT, oT, cT, rfl, hcT, HX7.out, hnT⟩, HFR.out, HB7.out, hs7⟩
                  case measure => simp [intOf]; omega
    · have HB := hid hb
      clear hb hW hP hXr hL
      go_wp2_with (go_at_call 8; refine (WheelAwake _).mono ?_; rintro e w' ⟨rfl, hb9⟩)
      go_ret
      exact ⟨rfl, below_trans' HB.out hb9⟩
end Go.Proofs.Ytlepfohhfngndaa
