/- The walks of bulkheadlaw1.kin over numbers of each type: it returns true, whatever the two numbers. -/
import Derived.Test.YtajkiglogfahfaaNum
import Derived.Test.YtajkiglogfahfaaKinP
import Derived.Deep.Cut
import Derived.Deep.DeepCutAuto
set_option linter.unusedVariables false
set_option linter.unusedSimpArgs false
namespace Go.Proofs.Ytajkiglogfahfaa
open Go.RowKit


set_option maxRecDepth 100000 in
set_option maxHeartbeats 2000000 in
theorem kin_uint8 (a b : Nat) (w : World) (ha : a < 256) (hb : b < 256) :
    Calls Try.prog 20 #[.int .u8 (a : Nat), .int .u8 (b : Nat)] w fun e w' => e = .returned (.bool true) ∧ w = w' := by
  obtain ⟨⟨s, A⟩, h1⟩ : ∃ p, Num.add 256 a b = p := ⟨_, rfl⟩
  obtain ⟨⟨d, D⟩, h2⟩ : ∃ p, Num.sub a b = p := ⟨_, rfl⟩
  obtain ⟨⟨m, Mo⟩, h3⟩ : ∃ p, Num.mul 256 a b = p := ⟨_, rfl⟩
  obtain ⟨⟨u, U⟩, h4⟩ : ∃ p, Num.up 256 a b = p := ⟨_, rfl⟩
  have H1 := Lib.hid h1
  have H2 := Lib.hid h2
  have H3 := Lib.hid h3
  have H4 := Lib.hid h4
  have HA := Lib.hid ha
  have HB := Lib.hid hb
  have haa : ((a : Int) != (a : Int)) = false := by simp
  clear h1 h2 h3 h4 ha hb
  go_enter Try.func20, Try.ntmps20
  go_upto_if 25 with (go_at_call 19; refine (add_uint8 a b _ HA.out HB.out _ H1.out).mono ?_; rintro e w' ⟨rfl, rfl⟩)
  go_cut [7, 8] (fun _ _ wx => w = wx)
  case first =>
    cases A
    · go_wp2_with fail
      go_meet
      case rel => rfl
    · have hq := k_add H1.out
      have hsa : a ≤ s := hq.1
      have HQ := Lib.hid hq.2
      have hsl := Lib.hid (k_add_lt HA.out HB.out H1.out)
      clear hq
      go_wp2_with (go_at_call 60; refine (sub_uint8 s b _ hsl.out HB.out _ HQ.out).mono ?_; rintro e w' ⟨rfl, rfl⟩)
      go_meet
      case rel => rfl
  case rest =>
    obtain rfl := hcut
    have hq := k_sub H2.out
    have HD := Lib.hid hq.1
    have HQ := Lib.hid hq.2
    have HDl := Lib.hid (k_sub_lt HA.out H2.out)
    clear hq
    go_upto_region 7 with (go_at_call 60; refine (sub_uint8 a b _ HA.out HB.out _ H2.out).mono ?_; rintro e w' ⟨rfl, rfl⟩)
    go_cut [54] (fun v wx => w = wx ∧ v = .bool false)
    case first =>
      by_cases hab : b ≤ a
      · have hD : D = true := by rw [HD.out]; exact decide_eq_true hab
        subst hD
        go_wp2_with fail
        go_meet
        case rel => exact ⟨rfl, rfl⟩
      · have hD : D = false := by rw [HD.out]; exact decide_eq_false hab
        subst hD
        go_wp2_with fail
        go_meet
        case rel => exact ⟨rfl, rfl⟩
    case rest =>
    obtain ⟨rfl, rfl⟩ := hcut
    go_upto_if 55 with fail
    go_cut [11, 12] (fun _ _ wx => w = wx)
    case first =>
      cases D
      · go_wp2_with fail
        go_meet
        case rel => rfl
      · have HQ2 := Lib.hid (k_addback HA.out (HQ.out rfl))
        go_wp2_with (go_at_call 19; refine (add_uint8 d b _ HDl.out HB.out _ HQ2.out).mono ?_; rintro e w' ⟨rfl, rfl⟩)
        go_meet
        case rel => rfl
    case rest =>
      obtain rfl := hcut
      go_upto_region 14 with (go_at_call 46; refine (mul_uint8 a b _ HA.out HB.out _ H3.out).mono ?_; rintro e w' ⟨rfl, rfl⟩)
      go_cut [92] (fun v wx => w = wx ∧ v = .bool false)
      case first =>
        cases Mo
        · go_wp2_with fail
          go_meet
          case rel => exact ⟨rfl, rfl⟩
        · by_cases hb0 : b = 0
          · subst hb0
            go_wp2_with fail
            go_meet
            case rel => exact ⟨rfl, rfl⟩
          · have hb1 : 1 ≤ b := by omega
            have hm := k_mul (by omega) H3.out
            have e1 : (m : Int) / (b : Int) = (a : Int) := by have := hm.1; omega
            have e2 : (m : Int) % (b : Int) = 0 := by have := hm.2; omega
            have ha' := HA.out
            clear hm hb0
            go_wp2_with fail
            go_meet
            case rel => exact ⟨rfl, rfl⟩
      case rest =>
        obtain ⟨rfl, rfl⟩ := hcut
        go_upto_region 17 with (go_at_call 61; refine (up_uint8 a b _ HA.out HB.out _ H4.out).mono ?_; rintro e w' ⟨rfl, rfl⟩)
        go_cut [117] (fun v wx => w = wx ∧ v = .bool false)
        case first =>
          cases U
          · go_wp2_with fail
            go_meet
            case rel => exact ⟨rfl, rfl⟩
          · obtain ⟨q1, q2, q3, q4⟩ := k_up H4.out
            have q3' : ¬ (b : Int) ≤ (u : Int) - (a : Int) := by omega
            have q5 : 1 ≤ b := by omega
            have e2 : (u : Int) % (b : Int) = 0 := by omega
            have hul : u < 256 := by have := k_up_lt HA.out H4.out; omega
            have q6 : decide (u < a) = false := decide_eq_false (by omega)
            clear q4
            go_wp2_with fail
            go_meet
            case rel => exact ⟨rfl, by first | rfl | rw [q6]⟩
        case rest =>
          obtain ⟨rfl, rfl⟩ := hcut
          go_wp2_with fail
          refine (up_uint8 a 0 _ HA.out (by decide) _ (k_up0 _ _)).mono ?_
          rintro e w' ⟨rfl, rfl⟩
          go_wp2_with fail
          refine (up_uint8 a 1 _ HA.out (by decide) _ (k_up1 _ _)).mono ?_
          rintro e w' ⟨rfl, rfl⟩
          have hee : ((a : Int) == (a : Int)) = true := by simp
          go_wp2_with fail
          go_ret
          exact ⟨rfl, rfl⟩

set_option maxRecDepth 100000 in
set_option maxHeartbeats 2000000 in
theorem kin_uint16 (a b : Nat) (w : World) (ha : a < 65536) (hb : b < 65536) :
    Calls Try.prog 21 #[.int .u16 (a : Nat), .int .u16 (b : Nat)] w fun e w' => e = .returned (.bool true) ∧ w = w' := by
  obtain ⟨⟨s, A⟩, h1⟩ : ∃ p, Num.add 65536 a b = p := ⟨_, rfl⟩
  obtain ⟨⟨d, D⟩, h2⟩ : ∃ p, Num.sub a b = p := ⟨_, rfl⟩
  obtain ⟨⟨m, Mo⟩, h3⟩ : ∃ p, Num.mul 65536 a b = p := ⟨_, rfl⟩
  obtain ⟨⟨u, U⟩, h4⟩ : ∃ p, Num.up 65536 a b = p := ⟨_, rfl⟩
  have H1 := Lib.hid h1
  have H2 := Lib.hid h2
  have H3 := Lib.hid h3
  have H4 := Lib.hid h4
  have HA := Lib.hid ha
  have HB := Lib.hid hb
  have haa : ((a : Int) != (a : Int)) = false := by simp
  clear h1 h2 h3 h4 ha hb
  go_enter Try.func21, Try.ntmps21
  go_upto_if 25 with (go_at_call 62; refine (add_uint16 a b _ HA.out HB.out _ H1.out).mono ?_; rintro e w' ⟨rfl, rfl⟩)
  go_cut [7, 8] (fun _ _ wx => w = wx)
  case first =>
    cases A
    · go_wp2_with fail
      go_meet
      case rel => rfl
    · have hq := k_add H1.out
      have hsa : a ≤ s := hq.1
      have HQ := Lib.hid hq.2
      have hsl := Lib.hid (k_add_lt HA.out HB.out H1.out)
      clear hq
      go_wp2_with (go_at_call 63; refine (sub_uint16 s b _ hsl.out HB.out _ HQ.out).mono ?_; rintro e w' ⟨rfl, rfl⟩)
      go_meet
      case rel => rfl
  case rest =>
    obtain rfl := hcut
    have hq := k_sub H2.out
    have HD := Lib.hid hq.1
    have HQ := Lib.hid hq.2
    have HDl := Lib.hid (k_sub_lt HA.out H2.out)
    clear hq
    go_upto_region 7 with (go_at_call 63; refine (sub_uint16 a b _ HA.out HB.out _ H2.out).mono ?_; rintro e w' ⟨rfl, rfl⟩)
    go_cut [54] (fun v wx => w = wx ∧ v = .bool false)
    case first =>
      by_cases hab : b ≤ a
      · have hD : D = true := by rw [HD.out]; exact decide_eq_true hab
        subst hD
        go_wp2_with fail
        go_meet
        case rel => exact ⟨rfl, rfl⟩
      · have hD : D = false := by rw [HD.out]; exact decide_eq_false hab
        subst hD
        go_wp2_with fail
        go_meet
        case rel => exact ⟨rfl, rfl⟩
    case rest =>
    obtain ⟨rfl, rfl⟩ := hcut
    go_upto_if 55 with fail
    go_cut [11, 12] (fun _ _ wx => w = wx)
    case first =>
      cases D
      · go_wp2_with fail
        go_meet
        case rel => rfl
      · have HQ2 := Lib.hid (k_addback HA.out (HQ.out rfl))
        go_wp2_with (go_at_call 62; refine (add_uint16 d b _ HDl.out HB.out _ HQ2.out).mono ?_; rintro e w' ⟨rfl, rfl⟩)
        go_meet
        case rel => rfl
    case rest =>
      obtain rfl := hcut
      go_upto_region 14 with (go_at_call 47; refine (mul_uint16 a b _ HA.out HB.out _ H3.out).mono ?_; rintro e w' ⟨rfl, rfl⟩)
      go_cut [92] (fun v wx => w = wx ∧ v = .bool false)
      case first =>
        cases Mo
        · go_wp2_with fail
          go_meet
          case rel => exact ⟨rfl, rfl⟩
        · by_cases hb0 : b = 0
          · subst hb0
            go_wp2_with fail
            go_meet
            case rel => exact ⟨rfl, rfl⟩
          · have hb1 : 1 ≤ b := by omega
            have hm := k_mul (by omega) H3.out
            have e1 : (m : Int) / (b : Int) = (a : Int) := by have := hm.1; omega
            have e2 : (m : Int) % (b : Int) = 0 := by have := hm.2; omega
            have ha' := HA.out
            clear hm hb0
            go_wp2_with fail
            go_meet
            case rel => exact ⟨rfl, rfl⟩
      case rest =>
        obtain ⟨rfl, rfl⟩ := hcut
        go_upto_region 17 with (go_at_call 64; refine (up_uint16 a b _ HA.out HB.out _ H4.out).mono ?_; rintro e w' ⟨rfl, rfl⟩)
        go_cut [117] (fun v wx => w = wx ∧ v = .bool false)
        case first =>
          cases U
          · go_wp2_with fail
            go_meet
            case rel => exact ⟨rfl, rfl⟩
          · obtain ⟨q1, q2, q3, q4⟩ := k_up H4.out
            have q3' : ¬ (b : Int) ≤ (u : Int) - (a : Int) := by omega
            have q5 : 1 ≤ b := by omega
            have e2 : (u : Int) % (b : Int) = 0 := by omega
            have hul : u < 65536 := by have := k_up_lt HA.out H4.out; omega
            have q6 : decide (u < a) = false := decide_eq_false (by omega)
            clear q4
            go_wp2_with fail
            go_meet
            case rel => exact ⟨rfl, by first | rfl | rw [q6]⟩
        case rest =>
          obtain ⟨rfl, rfl⟩ := hcut
          go_wp2_with fail
          refine (up_uint16 a 0 _ HA.out (by decide) _ (k_up0 _ _)).mono ?_
          rintro e w' ⟨rfl, rfl⟩
          go_wp2_with fail
          refine (up_uint16 a 1 _ HA.out (by decide) _ (k_up1 _ _)).mono ?_
          rintro e w' ⟨rfl, rfl⟩
          have hee : ((a : Int) == (a : Int)) = true := by simp
          go_wp2_with fail
          go_ret
          exact ⟨rfl, rfl⟩
end Go.Proofs.Ytajkiglogfahfaa
