-- PRINTED BY print.sh 35421559b90ae4d0a3588c463048766b98c2df88dd9212a6774a882060cdf62d: not written by this session
import Derived.Test.YtldkgfhngonnfaaDoorPTopStreamsx0
namespace Go.Proofs.YtldkgfhngonnfaaDoor.PTopStreams
open Go.RowKit Go.Proofs.YtldkgfhngonnfaaDoorW.PrintWords Go.Proofs.YtldkgfhngonnfaaDoorW.PrintLast Go.Proofs.YtldkgfhngonnfaaDoorW.PrintMore
attribute [local go_sem] max2_int min2_int max_two min_two max_three min_three max_four min_four   -- for this text's walks alone
set_option linter.unusedVariables false
set_option linter.unusedSimpArgs false

/-! ### area_good: function 49 -/
def area_good.f (a0 : Int) (a1 : Int) : Option (Bool) := if a0 ≥ 1 then (if a0 ≤ 281474976710655 then (if a1 ≥ 0 then (some (decide (a1 ≤ 65535))) else (some false)) else (some false)) else (some false)
set_option maxHeartbeats 8000000 in
set_option maxRecDepth 100000 in
theorem area_good.calls (a0 : Int) (a1 : Int) (r : Bool) (w : World) (h : area_good.f a0 a1 = some r) :
    Calls Tryd.prog 49 #[.int .i64 a0, .int .i64 a1] w fun e w' => e = .returned (.bool r) ∧ Drawn0 w w' := by
  have H : (if a0 ≥ 1 then (if a0 ≤ 281474976710655 then (if a1 ≥ 0 then (some (decide (a1 ≤ 65535))) else (some false)) else (some false)) else (some false)) = some r := h
  clear h
  by_cases c3 : a0 ≥ 1
  · rw [if_pos c3] at H
    have c3b0 : decide (1 ≤ a0) = true := decide_eq_true c3
    clear c3
    by_cases c4 : a0 ≤ 281474976710655
    · rw [if_pos c4] at H
      have c4b0 : decide (a0 ≤ 281474976710655) = true := decide_eq_true c4
      clear c4
      by_cases c5 : a1 ≥ 0
      · rw [if_pos c5] at H
        have c5b0 : decide (0 ≤ a1) = true := decide_eq_true c5
        clear c5
        obtain rfl := Option.some.inj H
        go_enter Tryd.func49, Tryd.ntmps49
        go_wp2
        go_ret
        exact ⟨by first | rfl | (simp; done) | (simp [*]; done), by repeat (first | exact Drawn0.refl _ | apply Drawn0.step)⟩
      · rw [if_neg c5] at H
        have c5b0 : decide (0 ≤ a1) = false := decide_eq_false c5
        clear c5
        obtain rfl := Option.some.inj H
        go_enter Tryd.func49, Tryd.ntmps49
        go_wp2
        go_ret
        exact ⟨by first | rfl | (simp; done) | (simp [*]; done), by repeat (first | exact Drawn0.refl _ | apply Drawn0.step)⟩
    · rw [if_neg c4] at H
      have c4b0 : decide (a0 ≤ 281474976710655) = false := decide_eq_false c4
      clear c4
      obtain rfl := Option.some.inj H
      go_enter Tryd.func49, Tryd.ntmps49
      go_wp2
      go_ret
      exact ⟨by first | rfl | (simp; done) | (simp [*]; done), by repeat (first | exact Drawn0.refl _ | apply Drawn0.step)⟩
  · rw [if_neg c3] at H
    have c3b0 : decide (1 ≤ a0) = false := decide_eq_false c3
    clear c3
    obtain rfl := Option.some.inj H
    go_enter Tryd.func49, Tryd.ntmps49
    go_wp2
    go_ret
    exact ⟨by first | rfl | (simp; done) | (simp [*]; done), by repeat (first | exact Drawn0.refl _ | apply Drawn0.step)⟩

-- NOT PRINTED: function 50 (area_Make)

-- NOT PRINTED: function 30 (area_Split)

-- NOT PRINTED: function 51 (disk_region_last)

-- NOT PRINTED: function 34 (disk_Disk_lose)

-- NOT PRINTED: function 60 (disk_Disk_fails)

-- NOT PRINTED: function 45 (disk_Disk_Write)

-- NOT PRINTED: function 46 (disk_Disk_Flush)

-- NOT PRINTED: function 31 (stream_Stream_lay)

-- NOT PRINTED: function 32 (stream_Stream_failed)

-- NOT PRINTED: function 33 (stream_Stream_capacity)

-- NOT PRINTED: function 27 (stream_Stream_Reset)

-- NOT PRINTED: function 9 (stream_Open)

-- NOT PRINTED: function 13 (stream_Stream_Left)

-- NOT PRINTED: function 12 (stream_Stream_Append)

-- NOT PRINTED: function 11 (disk_Disk_On)

-- NOT PRINTED: function 14 (disk_Disk_Crash)

-- NOT PRINTED: function 4 (precincttop_streams)

-- NOT PRINTED: function 3 (precincttop_TopStreams)

end Go.Proofs.YtldkgfhngonnfaaDoor.PTopStreams
