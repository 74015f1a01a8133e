/- What the functions of the reference topiaryref11 compute: point, Allowed, Encode. -/
import Derived.Test.YtpfalkdkiffipaaC11g
namespace Go.Proofs.Ytpfalkdkiffipaa
open Go.RowKit
set_option maxRecDepth 100000
attribute [local go_sem] byt_at byt_wrap
set_option maxHeartbeats 400000 in
theorem rpoint_any (n : Int) (w : World) : Calls Try.prog 44 #[.int .i64 n] w fun e w' => e = .returned (.bool (S.point n)) ∧ w = w' := by
  go_enter Try.func44, Try.ntmps44
  go_wp2
  all_goals (go_ret; refine ⟨ret_bool ?_, rfl⟩; unfold S.point; simp_all; try omega)
set_option maxHeartbeats 1000000 in
theorem rallowed_any (n : Int) (w : World) : Calls Try.prog 17 #[.int .i64 n] w fun e w' => e = .returned (.bool (S.allowed n)) ∧ w = w' := by
  have HA : Hid (S.allowed n = (decide (n = 9) || decide (n = 10) || decide (n = 13) || (decide (32 ≤ n) && decide (n ≤ 55295)) || (decide (57344 ≤ n) && decide (n ≤ 65533)) || (decide (65536 ≤ n) && decide (n ≤ 1114111)))) := Lib.hid (by
    unfold S.allowed S.point; rw [Bool.eq_iff_iff]; simp; omega)
  go_enter Try.func17, Try.ntmps17
  go_wp2
  all_goals
    go_ret
    refine ⟨ret_bool ?_, rfl⟩
    rw [HA.out, Bool.eq_iff_iff]
    simp only [beq_iff_eq, beq_eq_false_iff_ne, ne_eq, Bool.or_eq_true, Bool.and_eq_true, decide_eq_true_eq, Bool.true_eq_false, Bool.false_eq_true, true_iff, false_iff] at *
    omega
set_option maxHeartbeats 1000000 in
theorem renc_1 (n : Int) (w : World) (h0 : 0 ≤ n) (h1 : n < 128) (hp : S.point n = true) : Calls Try.prog 26 #[.int .i64 n] w (StrSaid (S.encode n) w) := by
  have HE : Hid (S.encode n = [S.u8 n]) := Lib.hid (by unfold S.encode; rw [hp]; (repeat' split) <;> first | contradiction | omega | rfl)
  have hcv : (convert 22 9 (.slice (some ⟨w.heap.size, 0, none⟩) 1 1)).run Try.prog (w.alloc (.cells #[.int .u8 n] 5)) = _ := conv_back w _ _ [S.u8 n] 1 rfl (by simp; (repeat' constructor) <;> (rw [u8_nat]; omega; omega))
  go_enter Try.func26, Try.ntmps26
  go_wp2_with (go_at_call 44; (with_reducible refine (rpoint_any _ _).mono ?_); rintro e w' ⟨rfl, rfl⟩)
  go_ret
  exact str_said HE.out.symm ((Below.refl _ _).alloc (Nat.le_refl _) _)
set_option maxHeartbeats 1000000 in
theorem renc_2 (n : Int) (w : World) (h0 : 128 ≤ n) (h1 : n < 2048) (hp : S.point n = true) : Calls Try.prog 26 #[.int .i64 n] w (StrSaid (S.encode n) w) := by
  have HE : Hid (S.encode n = [S.u8 (192 + n / 64), S.u8 (128 + n % 64)]) := Lib.hid (by unfold S.encode; rw [hp]; (repeat' split) <;> first | contradiction | omega | rfl)
  have hcv : (convert 22 9 (.slice (some ⟨w.heap.size, 0, none⟩) 2 2)).run Try.prog (w.alloc (.cells #[.int .u8 (192 + n / 64), .int .u8 (128 + n % 64)] 5)) = _ := conv_back w _ _ [S.u8 (192 + n / 64), S.u8 (128 + n % 64)] 2 rfl (by simp; (repeat' constructor) <;> (rw [u8_nat]; omega; omega))
  go_enter Try.func26, Try.ntmps26
  go_wp2_with (go_at_call 44; (with_reducible refine (rpoint_any _ _).mono ?_); rintro e w' ⟨rfl, rfl⟩)
  go_ret
  exact str_said HE.out.symm ((Below.refl _ _).alloc (Nat.le_refl _) _)
set_option maxHeartbeats 1000000 in
theorem renc_3 (n : Int) (w : World) (h0 : 2048 ≤ n) (h1 : n < 65536) (hp : S.point n = true) : Calls Try.prog 26 #[.int .i64 n] w (StrSaid (S.encode n) w) := by
  have HE : Hid (S.encode n = [S.u8 (224 + n / 4096), S.u8 (128 + n % 4096 / 64), S.u8 (128 + n % 64)]) := Lib.hid (by unfold S.encode; rw [hp]; (repeat' split) <;> first | contradiction | omega | rw [show n / 64 / 64 = n / 4096 from by omega, show n / 64 % 64 = n % 4096 / 64 from by omega])
  have hcv : (convert 22 9 (.slice (some ⟨w.heap.size, 0, none⟩) 3 3)).run Try.prog (w.alloc (.cells #[.int .u8 (224 + n / 4096), .int .u8 (128 + n % 4096 / 64), .int .u8 (128 + n % 64)] 5)) = _ := conv_back w _ _ [S.u8 (224 + n / 4096), S.u8 (128 + n % 4096 / 64), S.u8 (128 + n % 64)] 3 rfl (by simp; (repeat' constructor) <;> (rw [u8_nat]; omega; omega))
  go_enter Try.func26, Try.ntmps26
  go_wp2_with (go_at_call 44; (with_reducible refine (rpoint_any _ _).mono ?_); rintro e w' ⟨rfl, rfl⟩)
  go_ret
  exact str_said HE.out.symm ((Below.refl _ _).alloc (Nat.le_refl _) _)
set_option maxHeartbeats 1000000 in
theorem renc_4 (n : Int) (w : World) (h0 : 65536 ≤ n) (h1 : n < 1114112) (hp : S.point n = true) : Calls Try.prog 26 #[.int .i64 n] w (StrSaid (S.encode n) w) := by
  have HE : Hid (S.encode n = [S.u8 (240 + n / 262144), S.u8 (128 + n % 262144 / 4096), S.u8 (128 + n % 4096 / 64), S.u8 (128 + n % 64)]) := Lib.hid (by unfold S.encode; rw [hp]; (repeat' split) <;> first | contradiction | omega | rw [show n / 64 / 64 / 64 = n / 262144 from by omega, show n / 64 / 64 % 64 = n % 262144 / 4096 from by omega, show n / 64 % 64 = n % 4096 / 64 from by omega])
  have hcv : (convert 22 9 (.slice (some ⟨w.heap.size, 0, none⟩) 4 4)).run Try.prog (w.alloc (.cells #[.int .u8 (240 + n / 262144), .int .u8 (128 + n % 262144 / 4096), .int .u8 (128 + n % 4096 / 64), .int .u8 (128 + n % 64)] 5)) = _ := conv_back w _ _ [S.u8 (240 + n / 262144), S.u8 (128 + n % 262144 / 4096), S.u8 (128 + n % 4096 / 64), S.u8 (128 + n % 64)] 4 rfl (by simp; (repeat' constructor) <;> (rw [u8_nat]; omega; omega))
  go_enter Try.func26, Try.ntmps26
  go_wp2_with (go_at_call 44; (with_reducible refine (rpoint_any _ _).mono ?_); rintro e w' ⟨rfl, rfl⟩)
  go_ret
  exact str_said HE.out.symm ((Below.refl _ _).alloc (Nat.le_refl _) _)
set_option maxHeartbeats 1000000 in
theorem renc_any (n : Int) (w : World) : Calls Try.prog 26 #[.int .i64 n] w (StrSaid (S.encode n) w) := by
  by_cases hp : S.point n = true
  · have hq := hp
    unfold S.point at hq
    simp at hq
    by_cases h1 : n < 128
    · exact renc_1 n w (by omega) h1 hp
    by_cases h2 : n < 2048
    · exact renc_2 n w (by omega) h2 hp
    by_cases h3 : n < 65536
    · exact renc_3 n w (by omega) h3 hp
    · exact renc_4 n w (by omega) (by omega) hp
  · have hp' := Bool.eq_false_iff.2 hp; clear hp
    have HP := Lib.hid hp'
    go_enter Try.func26, Try.ntmps26
    go_wp2_with (go_at_call 44; (with_reducible refine (rpoint_any _ _).mono ?_); rintro e w' ⟨rfl, rfl⟩)
    go_ret
    exact str_said (by unfold S.encode; rw [HP.out]; rfl) (Below.refl _ _)
end Go.Proofs.Ytpfalkdkiffipaa
