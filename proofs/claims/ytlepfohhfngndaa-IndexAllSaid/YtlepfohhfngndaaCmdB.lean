/- Commands as Lean values, and the functions that test them: the code's and the document's. -/
import Derived.Test.YtlepfohhfngndaaCmp
import Derived.WalkLawsBesides
namespace Go.Proofs.Ytlepfohhfngndaa
open Go Go.RowKit Go.MapKept Go.ChangeMaps Go.Maps

/-- A command. -/
structure Cmd where
  kind : Int
  client : Int
  seq : Int
  key : ByteArray
  val : ByteArray
  rev : Int
  hc : I64 client
  hk : key.size ≤ maxLen
def encCmd (c : Cmd) : List Value := [.int .i64 c.kind, .int .i64 c.client, .int .i64 c.seq, .string c.key, .string c.val, .int .i64 c.rev]
def isWideB (c : Cmd) : Bool := c.kind == 5 || c.kind == 6
def writesB (c : Cmd) : Bool := c.kind == 2 || (c.kind == 3 || c.kind == 4)
def greatB (c : Cmd) : Bool := decide (200 < c.key.size) || decide (2000 < c.val.size)
/-- Does a key begin with a text? -/
def beginsB (k s : ByteArray) : Bool := decide (s.size ≤ k.size) && ((k.extract 0 s.size).toList == s.toList)
def keysB (a b : Cmd) : Bool := (a.key.toList == b.key.toList) || ((a.kind == 5 && beginsB b.key a.key) || (b.kind == 5 && beginsB a.key b.key))
def meetB (a b : Cmd) : Bool := !(a.kind == 0 || b.kind == 0) && ((a.kind == 6 || (b.kind == 6 || a.client == b.client)) || ((writesB a || writesB b) && keysB a b))

set_option maxRecDepth 100000 in
set_option maxHeartbeats 800000 in
theorem isWide_any (c : Cmd) (w : World) : Calls Try.prog 44 #[.agg #[.int .i64 c.kind, .int .i64 c.client, .int .i64 c.seq, .string c.key, .string c.val, .int .i64 c.rev]] w fun e w' => e = .returned (.bool (isWideB c)) ∧ Ext w w' := by
  cases h5 : (c.kind == 5)
  case false =>
    cases h6 : (c.kind == 6)
    case false =>
      have HH := hid (show isWideB c = false by unfold isWideB; simp [*])
      go_enter Try.func44, Try.ntmps44
      go_wp2
      go_ret
      exact ⟨by rw [HH.out]; rfl, (Ext.refl w).alloc _⟩
    case true =>
      have HH := hid (show isWideB c = true by unfold isWideB; simp [*])
      go_enter Try.func44, Try.ntmps44
      go_wp2
      go_ret
      exact ⟨by rw [HH.out]; rfl, (Ext.refl w).alloc _⟩
  case true =>
    have HH := hid (show isWideB c = true by unfold isWideB; simp [*])
    go_enter Try.func44, Try.ntmps44
    go_wp2
    go_ret
    exact ⟨by rw [HH.out]; rfl, (Ext.refl w).alloc _⟩

set_option maxRecDepth 100000 in
set_option maxHeartbeats 800000 in
theorem Writes_any (c : Cmd) (w : World) : Calls Try.prog 54 #[.agg #[.int .i64 c.kind, .int .i64 c.client, .int .i64 c.seq, .string c.key, .string c.val, .int .i64 c.rev]] w fun e w' => e = .returned (.bool (writesB c)) ∧ Ext w w' := by
  cases h2 : (c.kind == 2)
  case false =>
    cases h3 : (c.kind == 3)
    case false =>
      cases h4 : (c.kind == 4)
      case false =>
        have HH := hid (show writesB c = false by unfold writesB; simp [*])
        go_enter Try.func54, Try.ntmps54
        go_wp2
        go_ret
        exact ⟨by rw [HH.out]; rfl, (Ext.refl w).alloc _⟩
      case true =>
        have HH := hid (show writesB c = true by unfold writesB; simp [*])
        go_enter Try.func54, Try.ntmps54
        go_wp2
        go_ret
        exact ⟨by rw [HH.out]; rfl, (Ext.refl w).alloc _⟩
    case true =>
      have HH := hid (show writesB c = true by unfold writesB; simp [*])
      go_enter Try.func54, Try.ntmps54
      go_wp2
      go_ret
      exact ⟨by rw [HH.out]; rfl, (Ext.refl w).alloc _⟩
  case true =>
    have HH := hid (show writesB c = true by unfold writesB; simp [*])
    go_enter Try.func54, Try.ntmps54
    go_wp2
    go_ret
    exact ⟨by rw [HH.out]; rfl, (Ext.refl w).alloc _⟩

set_option maxRecDepth 100000 in
set_option maxHeartbeats 800000 in
theorem RefWrites_any (c : Cmd) (w : World) : Calls Try.prog 63 #[.agg #[.int .i64 c.kind, .int .i64 c.client, .int .i64 c.seq, .string c.key, .string c.val, .int .i64 c.rev]] w fun e w' => e = .returned (.bool (writesB c)) ∧ Ext w w' := by
  cases h2 : (c.kind == 2)
  case false =>
    cases h3 : (c.kind == 3)
    case false =>
      cases h4 : (c.kind == 4)
      case false =>
        have HH := hid (show writesB c = false by unfold writesB; simp [*])
        go_enter Try.func63, Try.ntmps63
        go_wp2
        go_ret
        exact ⟨by rw [HH.out]; rfl, (Ext.refl w).alloc _⟩
      case true =>
        have HH := hid (show writesB c = true by unfold writesB; simp [*])
        go_enter Try.func63, Try.ntmps63
        go_wp2
        go_ret
        exact ⟨by rw [HH.out]; rfl, (Ext.refl w).alloc _⟩
    case true =>
      have HH := hid (show writesB c = true by unfold writesB; simp [*])
      go_enter Try.func63, Try.ntmps63
      go_wp2
      go_ret
      exact ⟨by rw [HH.out]; rfl, (Ext.refl w).alloc _⟩
  case true =>
    have HH := hid (show writesB c = true by unfold writesB; simp [*])
    go_enter Try.func63, Try.ntmps63
    go_wp2
    go_ret
    exact ⟨by rw [HH.out]; rfl, (Ext.refl w).alloc _⟩


set_option maxRecDepth 100000 in
set_option maxHeartbeats 800000 in
theorem Great_any (c : Cmd) (w : World) : Calls Try.prog 21 #[.agg #[.int .i64 c.kind, .int .i64 c.client, .int .i64 c.seq, .string c.key, .string c.val, .int .i64 c.rev]] w fun e w' => e = .returned (.bool (greatB c)) ∧ Ext w w' := by
  have h2 := c.hk
  unfold maxLen at h2
  by_cases h1 : 200 < c.key.size
  · have HH := hid (show greatB c = true by unfold greatB; simp [h1])
    go_enter Try.func21, Try.ntmps21
    go_wp2
    go_ret
    exact ⟨by rw [HH.out]; rfl, (Ext.refl w).alloc _⟩
  · by_cases h3 : 2000 < c.val.size
    · have HH := hid (show greatB c = true by unfold greatB; simp [h3])
      go_enter Try.func21, Try.ntmps21
      go_wp2
      go_ret
      exact ⟨by rw [HH.out]; simp; omega, (Ext.refl w).alloc _⟩
    · have HH := hid (show greatB c = false by unfold greatB; simp [h1, h3]; try omega)
      go_enter Try.func21, Try.ntmps21
      go_wp2
      go_ret
      exact ⟨by rw [HH.out]; simp; omega, (Ext.refl w).alloc _⟩

set_option maxRecDepth 100000 in
set_option maxHeartbeats 800000 in
theorem LiteHasPrefix_any (k s : ByteArray) (w : World) (hk : k.size ≤ maxLen) (hs : s.size ≤ maxLen) : Calls Try.prog 83 #[.string k, .string s] w fun e w' => e = .returned (.bool (beginsB k s)) ∧ w' = w := by
  unfold maxLen at hk hs
  by_cases h : s.size ≤ k.size
  · have HH := hid (show beginsB k s = ((k.extract 0 s.size).toList == s.toList) by unfold beginsB; simp [h])
    go_enter Try.func83, Try.ntmps83
    go_wp2
    all_goals
      go_ret
      exact ⟨by rw [HH.out]; first | rfl | simp [*], rfl⟩
  · have HH := hid (show beginsB k s = false by unfold beginsB; simp [h])
    go_enter Try.func83, Try.ntmps83
    go_wp2
    go_ret
    exact ⟨by rw [HH.out]; rfl, rfl⟩

set_option maxRecDepth 100000 in
set_option maxHeartbeats 800000 in
theorem RefBegins_any (k s : ByteArray) (w : World) (hk : k.size ≤ maxLen) (hs : s.size ≤ maxLen) : Calls Try.prog 64 #[.string k, .string s] w fun e w' => e = .returned (.bool (beginsB k s)) ∧ w' = w := by
  unfold maxLen at hk hs
  by_cases h : s.size ≤ k.size
  · have HH := hid (show beginsB k s = ((k.extract 0 s.size).toList == s.toList) by unfold beginsB; simp [h])
    go_enter Try.func64, Try.ntmps64
    go_wp2
    all_goals
      go_ret
      exact ⟨by rw [HH.out]; first | rfl | simp [*], rfl⟩
  · have HH := hid (show beginsB k s = false by unfold beginsB; simp [h])
    go_enter Try.func64, Try.ntmps64
    go_wp2
    go_ret
    exact ⟨by rw [HH.out]; rfl, rfl⟩

set_option maxRecDepth 100000 in
set_option maxHeartbeats 800000 in
theorem HasPrefix_any (k s : ByteArray) (w : World) (hk : k.size ≤ maxLen) (hs : s.size ≤ maxLen) : Calls Try.prog 77 #[.string k, .string s] w fun e w' => e = .returned (.bool (beginsB k s)) ∧ w' = w := by
  have HC := hid (LiteHasPrefix_any k s w hk hs)
  generalize beginsB k s = b at *
  go_enter Try.func77, Try.ntmps77
  go_wp2_with (go_at_call 83; refine HC.out.mono ?_; rintro e w' ⟨rfl, rfl⟩)
  go_ret
  exact ⟨rfl, rfl⟩

set_option maxRecDepth 100000 in
set_option maxHeartbeats 800000 in
theorem Begins_any (k s : ByteArray) (w : World) (hk : k.size ≤ maxLen) (hs : s.size ≤ maxLen) : Calls Try.prog 66 #[.string k, .string s] w fun e w' => e = .returned (.bool (beginsB k s)) ∧ w' = w := by
  have HC := hid (HasPrefix_any k s w hk hs)
  generalize beginsB k s = b at *
  go_enter Try.func66, Try.ntmps66
  go_wp2_with (go_at_call 77; refine HC.out.mono ?_; rintro e w' ⟨rfl, rfl⟩)
  go_ret
  exact ⟨rfl, rfl⟩

set_option maxRecDepth 100000 in
set_option maxHeartbeats 800000 in
theorem keys_any (a b : Cmd) (w : World) : Calls Try.prog 55 #[.agg #[.int .i64 a.kind, .int .i64 a.client, .int .i64 a.seq, .string a.key, .string a.val, .int .i64 a.rev], .agg #[.int .i64 b.kind, .int .i64 b.client, .int .i64 b.seq, .string b.key, .string b.val, .int .i64 b.rev]] w fun e w' => e = .returned (.bool (keysB a b)) ∧ Ext w w' := by
  have B1 := hid (fun W => Begins_any b.key a.key W b.hk a.hk)
  have B2 := hid (fun W => Begins_any a.key b.key W a.hk b.hk)
  cases hq : (a.key.toList == b.key.toList)
  case true =>
    have HH := hid (show keysB a b = true by unfold keysB; simp [*])
    go_enter Try.func55, Try.ntmps55
    go_wp2
    go_ret
    exact ⟨by rw [HH.out]; rfl, ((Ext.refl w).alloc _).alloc _⟩
  case false =>
    cases ha : (a.kind == 5)
    case false =>
      cases hb : (b.kind == 5)
      case false =>
        have HH := hid (show keysB a b = false by unfold keysB; simp [*])
        go_enter Try.func55, Try.ntmps55
        go_wp2
        go_ret
        exact ⟨by rw [HH.out]; rfl, ((Ext.refl w).alloc _).alloc _⟩
      case true =>
        cases g2 : beginsB a.key b.key
        case false =>
          have HH := hid (show keysB a b = false by unfold keysB; simp [*])
          go_enter Try.func55, Try.ntmps55
          go_wp2_with fail
          refine (B2.out _).mono ?_
          rintro e w' ⟨he, rfl⟩
          rw [g2] at he
          subst he
          go_wp2
          go_ret
          exact ⟨by rw [HH.out]; rfl, ((Ext.refl w).alloc _).alloc _⟩
        case true =>
          have HH := hid (show keysB a b = true by unfold keysB; simp [*])
          go_enter Try.func55, Try.ntmps55
          go_wp2_with fail
          refine (B2.out _).mono ?_
          rintro e w' ⟨he, rfl⟩
          rw [g2] at he
          subst he
          go_wp2
          go_ret
          exact ⟨by rw [HH.out]; rfl, ((Ext.refl w).alloc _).alloc _⟩
    case true =>
      cases g1 : beginsB b.key a.key
      case true =>
        have HH := hid (show keysB a b = true by unfold keysB; simp [*])
        go_enter Try.func55, Try.ntmps55
        go_wp2_with fail
        refine (B1.out _).mono ?_
        rintro e w' ⟨he, rfl⟩
        rw [g1] at he
        subst he
        go_wp2
        go_ret
        exact ⟨by rw [HH.out]; rfl, ((Ext.refl w).alloc _).alloc _⟩
      case false =>
        cases hb : (b.kind == 5)
        case false =>
          have HH := hid (show keysB a b = false by unfold keysB; simp [*])
          go_enter Try.func55, Try.ntmps55
          go_wp2_with fail
          refine (B1.out _).mono ?_
          rintro e w' ⟨he, rfl⟩
          rw [g1] at he
          subst he
          go_wp2
          go_ret
          exact ⟨by rw [HH.out]; rfl, ((Ext.refl w).alloc _).alloc _⟩
        case true =>
          cases g2 : beginsB a.key b.key
          case false =>
            have HH := hid (show keysB a b = false by unfold keysB; simp [*])
            go_enter Try.func55, Try.ntmps55
            go_wp2_with fail
            refine (B1.out _).mono ?_
            rintro e w' ⟨he, rfl⟩
            rw [g1] at he
            subst he
            go_wp2_with fail
            refine (B2.out _).mono ?_
            rintro e w' ⟨he, rfl⟩
            rw [g2] at he
            subst he
            go_wp2
            go_ret
            exact ⟨by rw [HH.out]; rfl, ((Ext.refl w).alloc _).alloc _⟩
          case true =>
            have HH := hid (show keysB a b = true by unfold keysB; simp [*])
            go_enter Try.func55, Try.ntmps55
            go_wp2_with fail
            refine (B1.out _).mono ?_
            rintro e w' ⟨he, rfl⟩
            rw [g1] at he
            subst he
            go_wp2_with fail
            refine (B2.out _).mono ?_
            rintro e w' ⟨he, rfl⟩
            rw [g2] at he
            subst he
            go_wp2
            go_ret
            exact ⟨by rw [HH.out]; rfl, ((Ext.refl w).alloc _).alloc _⟩

theorem two_boxes {w w1 : World} (a b : Cmd) (hE : Ext ((w.alloc (.cells #[.int .i64 a.kind, .int .i64 a.client, .int .i64 a.seq, .string a.key, .string a.val, .int .i64 a.rev] 49)).alloc (.cells #[.int .i64 b.kind, .int .i64 b.client, .int .i64 b.seq, .string b.key, .string b.val, .int .i64 b.rev] 49)) w1) : w1.cell? ⟨w.heap.size, 0, none⟩ = some (.int .i64 a.kind) ∧ w1.cell? ⟨w.heap.size, 1, none⟩ = some (.int .i64 a.client) ∧ w1.cell? ⟨w.heap.size, 2, none⟩ = some (.int .i64 a.seq) ∧ w1.cell? ⟨w.heap.size, 3, none⟩ = some (.string a.key) ∧ w1.cell? ⟨w.heap.size, 4, none⟩ = some (.string a.val) ∧ w1.cell? ⟨w.heap.size, 5, none⟩ = some (.int .i64 a.rev) ∧ w1.cell? ⟨w.heap.size + 1, 0, none⟩ = some (.int .i64 b.kind) ∧ w1.cell? ⟨w.heap.size + 1, 1, none⟩ = some (.int .i64 b.client) ∧ w1.cell? ⟨w.heap.size + 1, 2, none⟩ = some (.int .i64 b.seq) ∧ w1.cell? ⟨w.heap.size + 1, 3, none⟩ = some (.string b.key) ∧ w1.cell? ⟨w.heap.size + 1, 4, none⟩ = some (.string b.val) ∧ w1.cell? ⟨w.heap.size + 1, 5, none⟩ = some (.int .i64 b.rev) := by
  refine ⟨?_, ?_, ?_, ?_, ?_, ?_, ?_, ?_, ?_, ?_, ?_, ?_⟩ <;> exact (Ext.keeps (S := fun _ => False) hE).cell (fun h => h) (by simp)

set_option maxRecDepth 100000 in
set_option maxHeartbeats 800000 in
theorem Meet_any (a b : Cmd) (w : World) : Calls Try.prog 36 #[.agg #[.int .i64 a.kind, .int .i64 a.client, .int .i64 a.seq, .string a.key, .string a.val, .int .i64 a.rev], .agg #[.int .i64 b.kind, .int .i64 b.client, .int .i64 b.seq, .string b.key, .string b.val, .int .i64 b.rev]] w fun e w' => e = .returned (.bool (meetB a b)) ∧ Ext w w' := by
  have W1 := hid (fun W => Writes_any a W)
  have W2 := hid (fun W => Writes_any b W)
  have K1 := hid (fun W => keys_any a b W)
  cases z1 : (a.kind == 0)
  case true =>
    have HH := hid (show meetB a b = false by unfold meetB; simp [*])
    go_enter Try.func36, Try.ntmps36
    go_wp2
    go_ret
    exact ⟨by rw [HH.out]; rfl, ((Ext.refl w).alloc _).alloc _⟩
  case false =>
    cases z2 : (b.kind == 0)
    case true =>
      have HH := hid (show meetB a b = false by unfold meetB; simp [*])
      go_enter Try.func36, Try.ntmps36
      go_wp2
      go_ret
      exact ⟨by rw [HH.out]; rfl, ((Ext.refl w).alloc _).alloc _⟩
    case false =>
      cases s1 : (a.kind == 6)
      case true =>
        have HH := hid (show meetB a b = true by unfold meetB; simp [*])
        go_enter Try.func36, Try.ntmps36
        go_wp2
        go_ret
        exact ⟨by rw [HH.out]; rfl, ((Ext.refl w).alloc _).alloc _⟩
      case false =>
        cases s2 : (b.kind == 6)
        case true =>
          have HH := hid (show meetB a b = true by unfold meetB; simp [*])
          go_enter Try.func36, Try.ntmps36
          go_wp2
          go_ret
          exact ⟨by rw [HH.out]; rfl, ((Ext.refl w).alloc _).alloc _⟩
        case false =>
          cases cl : (a.client == b.client)
          case true =>
            have HH := hid (show meetB a b = true by unfold meetB; simp [*])
            go_enter Try.func36, Try.ntmps36
            go_wp2
            go_ret
            exact ⟨by rw [HH.out]; rfl, ((Ext.refl w).alloc _).alloc _⟩
          case false =>
            cases wa : writesB a
            case true =>
              cases ks : keysB a b
              case false =>
                have HH := hid (show meetB a b = false by unfold meetB; simp [*])
                go_enter Try.func36, Try.ntmps36
                go_wp2_with fail
                refine (W1.out _).mono ?_
                rintro e wW1 ⟨he, hEW1⟩
                rw [wa] at he
                subst he
                obtain ⟨x0, x1, x2, x3, x4, x5, x6, x7, x8, x9, x10, x11⟩ := two_boxes a b (hEW1)
                go_wp2_with fail
                refine (K1.out _).mono ?_
                rintro e wK1 ⟨he, hEK1⟩
                rw [ks] at he
                subst he
                obtain ⟨x0, x1, x2, x3, x4, x5, x6, x7, x8, x9, x10, x11⟩ := two_boxes a b ((Ext.trans hEW1 hEK1))
                go_wp2
                go_ret
                exact ⟨by rw [HH.out]; rfl, (Ext.trans (Ext.trans (((Ext.refl w).alloc _).alloc _) hEW1) hEK1)⟩
              case true =>
                have HH := hid (show meetB a b = true by unfold meetB; simp [*])
                go_enter Try.func36, Try.ntmps36
                go_wp2_with fail
                refine (W1.out _).mono ?_
                rintro e wW1 ⟨he, hEW1⟩
                rw [wa] at he
                subst he
                obtain ⟨x0, x1, x2, x3, x4, x5, x6, x7, x8, x9, x10, x11⟩ := two_boxes a b (hEW1)
                go_wp2_with fail
                refine (K1.out _).mono ?_
                rintro e wK1 ⟨he, hEK1⟩
                rw [ks] at he
                subst he
                obtain ⟨x0, x1, x2, x3, x4, x5, x6, x7, x8, x9, x10, x11⟩ := two_boxes a b ((Ext.trans hEW1 hEK1))
                go_wp2
                go_ret
                exact ⟨by rw [HH.out]; rfl, (Ext.trans (Ext.trans (((Ext.refl w).alloc _).alloc _) hEW1) hEK1)⟩
            case false =>
              cases wb : writesB b
              case true =>
                cases ks : keysB a b
                case false =>
                  have HH := hid (show meetB a b = false by unfold meetB; simp [*])
                  go_enter Try.func36, Try.ntmps36
                  go_wp2_with fail
                  refine (W1.out _).mono ?_
                  rintro e wW1 ⟨he, hEW1⟩
                  rw [wa] at he
                  subst he
                  obtain ⟨x0, x1, x2, x3, x4, x5, x6, x7, x8, x9, x10, x11⟩ := two_boxes a b (hEW1)
                  go_wp2_with fail
                  refine (W2.out _).mono ?_
                  rintro e wW2 ⟨he, hEW2⟩
                  rw [wb] at he
                  subst he
                  obtain ⟨x0, x1, x2, x3, x4, x5, x6, x7, x8, x9, x10, x11⟩ := two_boxes a b ((Ext.trans hEW1 hEW2))
                  go_wp2_with fail
                  refine (K1.out _).mono ?_
                  rintro e wK1 ⟨he, hEK1⟩
                  rw [ks] at he
                  subst he
                  obtain ⟨x0, x1, x2, x3, x4, x5, x6, x7, x8, x9, x10, x11⟩ := two_boxes a b ((Ext.trans (Ext.trans hEW1 hEW2) hEK1))
                  go_wp2
                  go_ret
                  exact ⟨by rw [HH.out]; rfl, (Ext.trans (Ext.trans (Ext.trans (((Ext.refl w).alloc _).alloc _) hEW1) hEW2) hEK1)⟩
                case true =>
                  have HH := hid (show meetB a b = true by unfold meetB; simp [*])
                  go_enter Try.func36, Try.ntmps36
                  go_wp2_with fail
                  refine (W1.out _).mono ?_
                  rintro e wW1 ⟨he, hEW1⟩
                  rw [wa] at he
                  subst he
                  obtain ⟨x0, x1, x2, x3, x4, x5, x6, x7, x8, x9, x10, x11⟩ := two_boxes a b (hEW1)
                  go_wp2_with fail
                  refine (W2.out _).mono ?_
                  rintro e wW2 ⟨he, hEW2⟩
                  rw [wb] at he
                  subst he
                  obtain ⟨x0, x1, x2, x3, x4, x5, x6, x7, x8, x9, x10, x11⟩ := two_boxes a b ((Ext.trans hEW1 hEW2))
                  go_wp2_with fail
                  refine (K1.out _).mono ?_
                  rintro e wK1 ⟨he, hEK1⟩
                  rw [ks] at he
                  subst he
                  obtain ⟨x0, x1, x2, x3, x4, x5, x6, x7, x8, x9, x10, x11⟩ := two_boxes a b ((Ext.trans (Ext.trans hEW1 hEW2) hEK1))
                  go_wp2
                  go_ret
                  exact ⟨by rw [HH.out]; rfl, (Ext.trans (Ext.trans (Ext.trans (((Ext.refl w).alloc _).alloc _) hEW1) hEW2) hEK1)⟩
              case false =>
                have HH := hid (show meetB a b = false by unfold meetB; simp [*])
                go_enter Try.func36, Try.ntmps36
                go_wp2_with fail
                refine (W1.out _).mono ?_
                rintro e wW1 ⟨he, hEW1⟩
                rw [wa] at he
                subst he
                obtain ⟨x0, x1, x2, x3, x4, x5, x6, x7, x8, x9, x10, x11⟩ := two_boxes a b (hEW1)
                go_wp2_with fail
                refine (W2.out _).mono ?_
                rintro e wW2 ⟨he, hEW2⟩
                rw [wb] at he
                subst he
                obtain ⟨x0, x1, x2, x3, x4, x5, x6, x7, x8, x9, x10, x11⟩ := two_boxes a b ((Ext.trans hEW1 hEW2))
                go_wp2
                go_ret
                exact ⟨by rw [HH.out]; rfl, (Ext.trans (Ext.trans (((Ext.refl w).alloc _).alloc _) hEW1) hEW2)⟩

set_option maxRecDepth 100000 in
set_option maxHeartbeats 800000 in
theorem RefMeet_any (a b : Cmd) (w : World) : Calls Try.prog 48 #[.agg #[.int .i64 a.kind, .int .i64 a.client, .int .i64 a.seq, .string a.key, .string a.val, .int .i64 a.rev], .agg #[.int .i64 b.kind, .int .i64 b.client, .int .i64 b.seq, .string b.key, .string b.val, .int .i64 b.rev]] w fun e w' => e = .returned (.bool (meetB a b)) ∧ Ext w w' := by
  have W1 := hid (fun W => RefWrites_any a W)
  have W2 := hid (fun W => RefWrites_any b W)
  have B1 := hid (fun W => RefBegins_any b.key a.key W b.hk a.hk)
  have B2 := hid (fun W => RefBegins_any a.key b.key W a.hk b.hk)
  cases z1 : (a.kind == 0)
  case true =>
    have HH := hid (show meetB a b = false by unfold meetB; simp [*])
    go_enter Try.func48, Try.ntmps48
    go_wp2
    go_ret
    exact ⟨by rw [HH.out]; rfl, ((Ext.refl w).alloc _).alloc _⟩
  case false =>
    cases z2 : (b.kind == 0)
    case true =>
      have HH := hid (show meetB a b = false by unfold meetB; simp [*])
      go_enter Try.func48, Try.ntmps48
      go_wp2
      go_ret
      exact ⟨by rw [HH.out]; rfl, ((Ext.refl w).alloc _).alloc _⟩
    case false =>
      cases s1 : (a.kind == 6)
      case true =>
        have HH := hid (show meetB a b = true by unfold meetB; simp [*])
        go_enter Try.func48, Try.ntmps48
        go_wp2
        go_ret
        exact ⟨by rw [HH.out]; rfl, ((Ext.refl w).alloc _).alloc _⟩
      case false =>
        cases s2 : (b.kind == 6)
        case true =>
          have HH := hid (show meetB a b = true by unfold meetB; simp [*])
          go_enter Try.func48, Try.ntmps48
          go_wp2
          go_ret
          exact ⟨by rw [HH.out]; rfl, ((Ext.refl w).alloc _).alloc _⟩
        case false =>
          cases cl : (a.client == b.client)
          case true =>
            have HH := hid (show meetB a b = true by unfold meetB; simp [*])
            go_enter Try.func48, Try.ntmps48
            go_wp2
            go_ret
            exact ⟨by rw [HH.out]; rfl, ((Ext.refl w).alloc _).alloc _⟩
          case false =>
            cases wa : writesB a
            case true =>
              cases hq : (a.key.toList == b.key.toList)
              case true =>
                have HH := hid (show meetB a b = true by unfold meetB keysB; simp [*])
                go_enter Try.func48, Try.ntmps48
                go_wp2_with fail
                refine (W1.out _).mono ?_
                rintro e wW1 ⟨he, hEW1⟩
                rw [wa] at he
                subst he
                obtain ⟨x0, x1, x2, x3, x4, x5, x6, x7, x8, x9, x10, x11⟩ := two_boxes a b (hEW1)
                go_wp2
                go_ret
                exact ⟨by rw [HH.out]; rfl, (Ext.trans (((Ext.refl w).alloc _).alloc _) hEW1)⟩
              case false =>
                cases ha : (a.kind == 5)
                case false =>
                  cases hb : (b.kind == 5)
                  case false =>
                    have HH := hid (show meetB a b = false by unfold meetB keysB; simp [*])
                    go_enter Try.func48, Try.ntmps48
                    go_wp2_with fail
                    refine (W1.out _).mono ?_
                    rintro e wW1 ⟨he, hEW1⟩
                    rw [wa] at he
                    subst he
                    obtain ⟨x0, x1, x2, x3, x4, x5, x6, x7, x8, x9, x10, x11⟩ := two_boxes a b (hEW1)
                    go_wp2
                    go_ret
                    exact ⟨by rw [HH.out]; rfl, (Ext.trans (((Ext.refl w).alloc _).alloc _) hEW1)⟩
                  case true =>
                    cases g2 : beginsB a.key b.key
                    case false =>
                      have HH := hid (show meetB a b = false by unfold meetB keysB; simp [*])
                      go_enter Try.func48, Try.ntmps48
                      go_wp2_with fail
                      refine (W1.out _).mono ?_
                      rintro e wW1 ⟨he, hEW1⟩
                      rw [wa] at he
                      subst he
                      obtain ⟨x0, x1, x2, x3, x4, x5, x6, x7, x8, x9, x10, x11⟩ := two_boxes a b (hEW1)
                      go_wp2_with fail
                      refine (B2.out _).mono ?_
                      rintro e w' ⟨he, rfl⟩
                      rw [g2] at he
                      subst he
                      go_wp2
                      go_ret
                      exact ⟨by rw [HH.out]; rfl, (Ext.trans (((Ext.refl w).alloc _).alloc _) hEW1)⟩
                    case true =>
                      have HH := hid (show meetB a b = true by unfold meetB keysB; simp [*])
                      go_enter Try.func48, Try.ntmps48
                      go_wp2_with fail
                      refine (W1.out _).mono ?_
                      rintro e wW1 ⟨he, hEW1⟩
                      rw [wa] at he
                      subst he
                      obtain ⟨x0, x1, x2, x3, x4, x5, x6, x7, x8, x9, x10, x11⟩ := two_boxes a b (hEW1)
                      go_wp2_with fail
                      refine (B2.out _).mono ?_
                      rintro e w' ⟨he, rfl⟩
                      rw [g2] at he
                      subst he
                      go_wp2
                      go_ret
                      exact ⟨by rw [HH.out]; rfl, (Ext.trans (((Ext.refl w).alloc _).alloc _) hEW1)⟩
                case true =>
                  cases g1 : beginsB b.key a.key
                  case true =>
                    have HH := hid (show meetB a b = true by unfold meetB keysB; simp [*])
                    go_enter Try.func48, Try.ntmps48
                    go_wp2_with fail
                    refine (W1.out _).mono ?_
                    rintro e wW1 ⟨he, hEW1⟩
                    rw [wa] at he
                    subst he
                    obtain ⟨x0, x1, x2, x3, x4, x5, x6, x7, x8, x9, x10, x11⟩ := two_boxes a b (hEW1)
                    go_wp2_with fail
                    refine (B1.out _).mono ?_
                    rintro e w' ⟨he, rfl⟩
                    rw [g1] at he
                    subst he
                    go_wp2
                    go_ret
                    exact ⟨by rw [HH.out]; rfl, (Ext.trans (((Ext.refl w).alloc _).alloc _) hEW1)⟩
                  case false =>
                    cases hb : (b.kind == 5)
                    case false =>
                      have HH := hid (show meetB a b = false by unfold meetB keysB; simp [*])
                      go_enter Try.func48, Try.ntmps48
                      go_wp2_with fail
                      refine (W1.out _).mono ?_
                      rintro e wW1 ⟨he, hEW1⟩
                      rw [wa] at he
                      subst he
                      obtain ⟨x0, x1, x2, x3, x4, x5, x6, x7, x8, x9, x10, x11⟩ := two_boxes a b (hEW1)
                      go_wp2_with fail
                      refine (B1.out _).mono ?_
                      rintro e w' ⟨he, rfl⟩
                      rw [g1] at he
                      subst he
                      go_wp2
                      go_ret
                      exact ⟨by rw [HH.out]; rfl, (Ext.trans (((Ext.refl w).alloc _).alloc _) hEW1)⟩
                    case true =>
                      cases g2 : beginsB a.key b.key
                      case false =>
                        have HH := hid (show meetB a b = false by unfold meetB keysB; simp [*])
                        go_enter Try.func48, Try.ntmps48
                        go_wp2_with fail
                        refine (W1.out _).mono ?_
                        rintro e wW1 ⟨he, hEW1⟩
                        rw [wa] at he
                        subst he
                        obtain ⟨x0, x1, x2, x3, x4, x5, x6, x7, x8, x9, x10, x11⟩ := two_boxes a b (hEW1)
                        go_wp2_with fail
                        refine (B1.out _).mono ?_
                        rintro e w' ⟨he, rfl⟩
                        rw [g1] at he
                        subst he
                        go_wp2_with fail
                        refine (B2.out _).mono ?_
                        rintro e w' ⟨he, rfl⟩
                        rw [g2] at he
                        subst he
                        go_wp2
                        go_ret
                        exact ⟨by rw [HH.out]; rfl, (Ext.trans (((Ext.refl w).alloc _).alloc _) hEW1)⟩
                      case true =>
                        have HH := hid (show meetB a b = true by unfold meetB keysB; simp [*])
                        go_enter Try.func48, Try.ntmps48
                        go_wp2_with fail
                        refine (W1.out _).mono ?_
                        rintro e wW1 ⟨he, hEW1⟩
                        rw [wa] at he
                        subst he
                        obtain ⟨x0, x1, x2, x3, x4, x5, x6, x7, x8, x9, x10, x11⟩ := two_boxes a b (hEW1)
                        go_wp2_with fail
                        refine (B1.out _).mono ?_
                        rintro e w' ⟨he, rfl⟩
                        rw [g1] at he
                        subst he
                        go_wp2_with fail
                        refine (B2.out _).mono ?_
                        rintro e w' ⟨he, rfl⟩
                        rw [g2] at he
                        subst he
                        go_wp2
                        go_ret
                        exact ⟨by rw [HH.out]; rfl, (Ext.trans (((Ext.refl w).alloc _).alloc _) hEW1)⟩
            case false =>
              cases wb : writesB b
              case true =>
                cases hq : (a.key.toList == b.key.toList)
                case true =>
                  have HH := hid (show meetB a b = true by unfold meetB keysB; simp [*])
                  go_enter Try.func48, Try.ntmps48
                  go_wp2_with fail
                  refine (W1.out _).mono ?_
                  rintro e wW1 ⟨he, hEW1⟩
                  rw [wa] at he
                  subst he
                  obtain ⟨x0, x1, x2, x3, x4, x5, x6, x7, x8, x9, x10, x11⟩ := two_boxes a b (hEW1)
                  go_wp2_with fail
                  refine (W2.out _).mono ?_
                  rintro e wW2 ⟨he, hEW2⟩
                  rw [wb] at he
                  subst he
                  obtain ⟨x0, x1, x2, x3, x4, x5, x6, x7, x8, x9, x10, x11⟩ := two_boxes a b ((Ext.trans hEW1 hEW2))
                  go_wp2
                  go_ret
                  exact ⟨by rw [HH.out]; rfl, (Ext.trans (Ext.trans (((Ext.refl w).alloc _).alloc _) hEW1) hEW2)⟩
                case false =>
                  cases ha : (a.kind == 5)
                  case false =>
                    cases hb : (b.kind == 5)
                    case false =>
                      have HH := hid (show meetB a b = false by unfold meetB keysB; simp [*])
                      go_enter Try.func48, Try.ntmps48
                      go_wp2_with fail
                      refine (W1.out _).mono ?_
                      rintro e wW1 ⟨he, hEW1⟩
                      rw [wa] at he
                      subst he
                      obtain ⟨x0, x1, x2, x3, x4, x5, x6, x7, x8, x9, x10, x11⟩ := two_boxes a b (hEW1)
                      go_wp2_with fail
                      refine (W2.out _).mono ?_
                      rintro e wW2 ⟨he, hEW2⟩
                      rw [wb] at he
                      subst he
                      obtain ⟨x0, x1, x2, x3, x4, x5, x6, x7, x8, x9, x10, x11⟩ := two_boxes a b ((Ext.trans hEW1 hEW2))
                      go_wp2
                      go_ret
                      exact ⟨by rw [HH.out]; rfl, (Ext.trans (Ext.trans (((Ext.refl w).alloc _).alloc _) hEW1) hEW2)⟩
                    case true =>
                      cases g2 : beginsB a.key b.key
                      case false =>
                        have HH := hid (show meetB a b = false by unfold meetB keysB; simp [*])
                        go_enter Try.func48, Try.ntmps48
                        go_wp2_with fail
                        refine (W1.out _).mono ?_
                        rintro e wW1 ⟨he, hEW1⟩
                        rw [wa] at he
                        subst he
                        obtain ⟨x0, x1, x2, x3, x4, x5, x6, x7, x8, x9, x10, x11⟩ := two_boxes a b (hEW1)
                        go_wp2_with fail
                        refine (W2.out _).mono ?_
                        rintro e wW2 ⟨he, hEW2⟩
                        rw [wb] at he
                        subst he
                        obtain ⟨x0, x1, x2, x3, x4, x5, x6, x7, x8, x9, x10, x11⟩ := two_boxes a b ((Ext.trans hEW1 hEW2))
                        go_wp2_with fail
                        refine (B2.out _).mono ?_
                        rintro e w' ⟨he, rfl⟩
                        rw [g2] at he
                        subst he
                        go_wp2
                        go_ret
                        exact ⟨by rw [HH.out]; rfl, (Ext.trans (Ext.trans (((Ext.refl w).alloc _).alloc _) hEW1) hEW2)⟩
                      case true =>
                        have HH := hid (show meetB a b = true by unfold meetB keysB; simp [*])
                        go_enter Try.func48, Try.ntmps48
                        go_wp2_with fail
                        refine (W1.out _).mono ?_
                        rintro e wW1 ⟨he, hEW1⟩
                        rw [wa] at he
                        subst he
                        obtain ⟨x0, x1, x2, x3, x4, x5, x6, x7, x8, x9, x10, x11⟩ := two_boxes a b (hEW1)
                        go_wp2_with fail
                        refine (W2.out _).mono ?_
                        rintro e wW2 ⟨he, hEW2⟩
                        rw [wb] at he
                        subst he
                        obtain ⟨x0, x1, x2, x3, x4, x5, x6, x7, x8, x9, x10, x11⟩ := two_boxes a b ((Ext.trans hEW1 hEW2))
                        go_wp2_with fail
                        refine (B2.out _).mono ?_
                        rintro e w' ⟨he, rfl⟩
                        rw [g2] at he
                        subst he
                        go_wp2
                        go_ret
                        exact ⟨by rw [HH.out]; rfl, (Ext.trans (Ext.trans (((Ext.refl w).alloc _).alloc _) hEW1) hEW2)⟩
                  case true =>
                    cases g1 : beginsB b.key a.key
                    case true =>
                      have HH := hid (show meetB a b = true by unfold meetB keysB; simp [*])
                      go_enter Try.func48, Try.ntmps48
                      go_wp2_with fail
                      refine (W1.out _).mono ?_
                      rintro e wW1 ⟨he, hEW1⟩
                      rw [wa] at he
                      subst he
                      obtain ⟨x0, x1, x2, x3, x4, x5, x6, x7, x8, x9, x10, x11⟩ := two_boxes a b (hEW1)
                      go_wp2_with fail
                      refine (W2.out _).mono ?_
                      rintro e wW2 ⟨he, hEW2⟩
                      rw [wb] at he
                      subst he
                      obtain ⟨x0, x1, x2, x3, x4, x5, x6, x7, x8, x9, x10, x11⟩ := two_boxes a b ((Ext.trans hEW1 hEW2))
                      go_wp2_with fail
                      refine (B1.out _).mono ?_
                      rintro e w' ⟨he, rfl⟩
                      rw [g1] at he
                      subst he
                      go_wp2
                      go_ret
                      exact ⟨by rw [HH.out]; rfl, (Ext.trans (Ext.trans (((Ext.refl w).alloc _).alloc _) hEW1) hEW2)⟩
                    case false =>
                      cases hb : (b.kind == 5)
                      case false =>
                        have HH := hid (show meetB a b = false by unfold meetB keysB; simp [*])
                        go_enter Try.func48, Try.ntmps48
                        go_wp2_with fail
                        refine (W1.out _).mono ?_
                        rintro e wW1 ⟨he, hEW1⟩
                        rw [wa] at he
                        subst he
                        obtain ⟨x0, x1, x2, x3, x4, x5, x6, x7, x8, x9, x10, x11⟩ := two_boxes a b (hEW1)
                        go_wp2_with fail
                        refine (W2.out _).mono ?_
                        rintro e wW2 ⟨he, hEW2⟩
                        rw [wb] at he
                        subst he
                        obtain ⟨x0, x1, x2, x3, x4, x5, x6, x7, x8, x9, x10, x11⟩ := two_boxes a b ((Ext.trans hEW1 hEW2))
                        go_wp2_with fail
                        refine (B1.out _).mono ?_
                        rintro e w' ⟨he, rfl⟩
                        rw [g1] at he
                        subst he
                        go_wp2
                        go_ret
                        exact ⟨by rw [HH.out]; rfl, (Ext.trans (Ext.trans (((Ext.refl w).alloc _).alloc _) hEW1) hEW2)⟩
                      case true =>
                        cases g2 : beginsB a.key b.key
                        case false =>
                          have HH := hid (show meetB a b = false by unfold meetB keysB; simp [*])
                          go_enter Try.func48, Try.ntmps48
                          go_wp2_with fail
                          refine (W1.out _).mono ?_
                          rintro e wW1 ⟨he, hEW1⟩
                          rw [wa] at he
                          subst he
                          obtain ⟨x0, x1, x2, x3, x4, x5, x6, x7, x8, x9, x10, x11⟩ := two_boxes a b (hEW1)
                          go_wp2_with fail
                          refine (W2.out _).mono ?_
                          rintro e wW2 ⟨he, hEW2⟩
                          rw [wb] at he
                          subst he
                          obtain ⟨x0, x1, x2, x3, x4, x5, x6, x7, x8, x9, x10, x11⟩ := two_boxes a b ((Ext.trans hEW1 hEW2))
                          go_wp2_with fail
                          refine (B1.out _).mono ?_
                          rintro e w' ⟨he, rfl⟩
                          rw [g1] at he
                          subst he
                          go_wp2_with fail
                          refine (B2.out _).mono ?_
                          rintro e w' ⟨he, rfl⟩
                          rw [g2] at he
                          subst he
                          go_wp2
                          go_ret
                          exact ⟨by rw [HH.out]; rfl, (Ext.trans (Ext.trans (((Ext.refl w).alloc _).alloc _) hEW1) hEW2)⟩
                        case true =>
                          have HH := hid (show meetB a b = true by unfold meetB keysB; simp [*])
                          go_enter Try.func48, Try.ntmps48
                          go_wp2_with fail
                          refine (W1.out _).mono ?_
                          rintro e wW1 ⟨he, hEW1⟩
                          rw [wa] at he
                          subst he
                          obtain ⟨x0, x1, x2, x3, x4, x5, x6, x7, x8, x9, x10, x11⟩ := two_boxes a b (hEW1)
                          go_wp2_with fail
                          refine (W2.out _).mono ?_
                          rintro e wW2 ⟨he, hEW2⟩
                          rw [wb] at he
                          subst he
                          obtain ⟨x0, x1, x2, x3, x4, x5, x6, x7, x8, x9, x10, x11⟩ := two_boxes a b ((Ext.trans hEW1 hEW2))
                          go_wp2_with fail
                          refine (B1.out _).mono ?_
                          rintro e w' ⟨he, rfl⟩
                          rw [g1] at he
                          subst he
                          go_wp2_with fail
                          refine (B2.out _).mono ?_
                          rintro e w' ⟨he, rfl⟩
                          rw [g2] at he
                          subst he
                          go_wp2
                          go_ret
                          exact ⟨by rw [HH.out]; rfl, (Ext.trans (Ext.trans (((Ext.refl w).alloc _).alloc _) hEW1) hEW2)⟩
              case false =>
                have HH := hid (show meetB a b = false by unfold meetB; simp [*])
                go_enter Try.func48, Try.ntmps48
                go_wp2_with fail
                refine (W1.out _).mono ?_
                rintro e wW1 ⟨he, hEW1⟩
                rw [wa] at he
                subst he
                obtain ⟨x0, x1, x2, x3, x4, x5, x6, x7, x8, x9, x10, x11⟩ := two_boxes a b (hEW1)
                go_wp2_with fail
                refine (W2.out _).mono ?_
                rintro e wW2 ⟨he, hEW2⟩
                rw [wb] at he
                subst he
                obtain ⟨x0, x1, x2, x3, x4, x5, x6, x7, x8, x9, x10, x11⟩ := two_boxes a b ((Ext.trans hEW1 hEW2))
                go_wp2
                go_ret
                exact ⟨by rw [HH.out]; rfl, (Ext.trans (Ext.trans (((Ext.refl w).alloc _).alloc _) hEW1) hEW2)⟩

end Go.Proofs.Ytlepfohhfngndaa
