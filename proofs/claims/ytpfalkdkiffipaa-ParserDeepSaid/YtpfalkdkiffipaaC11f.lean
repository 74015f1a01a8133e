/- Entities: chars.digit, numbered, named, Entity. -/
import Derived.Test.YtpfalkdkiffipaaC11e
namespace Go.Proofs.Ytpfalkdkiffipaa
open Go.RowKit
set_option maxRecDepth 100000
attribute [local go_sem] byt_at byt_wrap
def hexs : List UInt8 := [48, 49, 50, 51, 52, 53, 54, 55, 56, 57, 97, 98, 99, 100, 101, 102]
theorem hex_index (c : UInt8) : Lib.indexByte hexs (if 65 ≤ c.toNat ∧ c.toNat ≤ 70 then c + 32 else c) = S.digit c := by
  have h : ∀ n : Fin 256, Lib.indexByte hexs (if 65 ≤ (UInt8.ofNat n.val).toNat ∧ (UInt8.ofNat n.val).toNat ≤ 70 then UInt8.ofNat n.val + 32 else UInt8.ofNat n.val) = S.digit (UInt8.ofNat n.val) := by decide +kernel
  have := h ⟨c.toNat, c.toNat_lt⟩
  simpa using this
set_option maxHeartbeats 400000 in
theorem digit_any (c : UInt8) (w : World) : Calls Try.prog 99 #[.int .u8 (byt c)] w fun e w' => e = .returned (.int .i64 (S.digit c)) ∧ w = w' := by
  have hx := Lib.hid (hex_index c)
  have hl := byt_lo c
  have hh := byt_hi c
  by_cases h : 65 ≤ byt c ∧ byt c ≤ 70
  · obtain ⟨h1, h2⟩ := h
    have hb := Try.strings_IndexByte ⟨hexs.toArray⟩ (byt c + 32) w
    have he : (byt c + 32).toNat.toUInt8 = c + 32 := by
      apply UInt8.toNat_inj.1; unfold byt at *; rw [UInt8.toNat_add]; simp; omega
    rw [he] at hb
    have HB := Lib.hid hb; clear hb he
    have HX : Hid (Lib.indexByte hexs (c + 32) = S.digit c) := Lib.hid (by rw [← hx.out, if_pos (by unfold byt at h1 h2; omega)])
    go_enter Try.func99, Try.ntmps99
    go_wp2_with (go_at_call 69; (refine HB.out.mono ?_); rintro e w' ⟨rfl, hww⟩)
    subst hww
    go_ret
    exact ⟨ret_int HX.out, rfl⟩
  · have hb := Try.strings_IndexByte ⟨hexs.toArray⟩ (byt c) w
    rw [byt_back] at hb
    have HB := Lib.hid hb; clear hb
    have HX : Hid (Lib.indexByte hexs c = S.digit c) := Lib.hid (by rw [← hx.out, if_neg (by unfold byt at h; omega)])
    by_cases h1 : 65 ≤ byt c
    all_goals
      go_enter Try.func99, Try.ntmps99
      go_wp2_with (go_at_call 69; (refine HB.out.mono ?_); rintro e w' ⟨rfl, hww⟩)
      all_goals (first | omega | (subst hww; go_ret; exact ⟨ret_int HX.out, rfl⟩))
theorem beqs (s : ByteArray) (l : List UInt8) (b : Bool) (h : (s.toList == l) = b) : decide (s.data.toList = l) = b := by
  rw [← h, ByteArray.toList_eq]; exact (Bool.eq_iff_iff.2 (by simp))
set_option maxHeartbeats 400000 in
theorem named_any (s : ByteArray) (w : World) : Calls Try.prog 81 #[.string s] w (StrSaid (S.named s.data.toList) w) := by
  go_enter Try.func81, Try.ntmps81
  go_wp2
  all_goals
    go_ret
    refine str_said ?_ (Below.refl _ _)
    unfold S.named
    simp only [ByteArray.toList_eq, beq_iff_eq, beq_eq_false_iff_ne, ne_eq] at *
    simp_all
theorem digitsF_step (b : Int) (c : UInt8) (l : S.B) (n : Int) : S.digitsF b (c :: l) n = if S.digit c < 0 ∨ b ≤ S.digit c then none else S.digitsF b l (n * b + S.digit c) := rfl
def nb (k : Nat) : Int := 16 ^ k
theorem nb_succ (k : Nat) : nb (k + 1) = nb k * 16 := by unfold nb; rw [Int.pow_succ]
theorem nb_le (k : Nat) (h : k ≤ 8) : nb k ≤ 4294967296 := by
  have : k = 0 ∨ k = 1 ∨ k = 2 ∨ k = 3 ∨ k = 4 ∨ k = 5 ∨ k = 6 ∨ k = 7 ∨ k = 8 := by omega
  rcases this with rfl | rfl | rfl | rfl | rfl | rfl | rfl | rfl | rfl <;> decide
theorem ne_list (s : ByteArray) (h : 0 < s.size) : ¬ s.toList = [] := by rw [ByteArray.toList_eq]; exact ne_nil s h
theorem ne_list2 (s : ByteArray) (h : 0 < s.size) : s.toList.isEmpty = false := by rw [ByteArray.toList_eq]; have := ne_nil s h; simpa using this
set_option maxHeartbeats 1000000 in
theorem numbered_10 (s : ByteArray) (w : World) (hs : s.size ≤ 1000000000) : Calls Try.prog 83 #[.string s, .int .i64 10] w (StrSaid (S.numbered s.data.toList 10) w) := by
  by_cases h0 : 0 < s.size
  · have hne := ne_empty s h0
    have hne1 := ne_list s h0
    have hne2 := ne_list2 s h0
    by_cases h8 : s.size ≤ 8
    · have HN : Hid (S.numbered s.data.toList 10 = match S.digitsF 10 s.data.toList 0 with | none => [] | some n => if S.allowed n then S.encode n else []) := Lib.hid (by
        unfold S.numbered; rw [if_neg (show ¬ (s.data.toList = [] ∨ 8 < s.data.toList.length) from by have := ne_nil s h0; rw [size_list]; simp only [this, false_or]; omega)]; rfl)
      go_enter Try.func83, Try.ntmps83
      go_wp2
      go_loop [5, 17] (fun c i => ∃ (k : Nat) (n : Int), k ≤ s.size ∧ i = .int .i64 k ∧ c = .int .i64 n ∧ 0 ≤ n ∧ n < nb k ∧ S.digitsF 10 (s.data.toList.drop k) n = S.digitsF 10 s.data.toList 0) (fun _ i => s.size - (intOf i).toNat)
      case atStart => exact ⟨0, 0, by omega, rfl, rfl, by omega, by decide, rfl⟩
      case round =>
        obtain ⟨k, n, hk, rfl, rfl, hn0, hn1, hr⟩ := hrel
        have HR := Lib.hid hr; clear hr
        by_cases hlt : k < s.size
        · have hdx := digit_any s[k]
          have HC := Lib.hid (cons_at s.data.toList k s[k] (by rw [size_list]; exact hlt) (getD_at s k hlt))
          have HST := Lib.hid (digitsF_step 10 s[k] (s.data.toList.drop (k + 1)) n)
          have hhi := S.digit_hi s[k]
          generalize S.digit s[k] = d at *
          have HD := Lib.hid hdx; clear hdx
          have hsu := Lib.hid (nb_succ k)
          have hle := nb_le k (by omega)
          by_cases hd : d < 0
          · go_wp2_with (go_at_call 99; (with_reducible refine (HD.out _).mono ?_); rintro e w' ⟨rfl, rfl⟩)
            go_ret
            exact str_said (by rw [HN.out, ← HR.out, HC.out, HST.out, if_pos (.inl hd)]) (Below.refl _ _)
          by_cases hd2 : 10 ≤ d
          · go_wp2_with (go_at_call 99; (with_reducible refine (HD.out _).mono ?_); rintro e w' ⟨rfl, rfl⟩)
            go_ret
            exact str_said (by rw [HN.out, ← HR.out, HC.out, HST.out, if_pos (.inr hd2)]) (Below.refl _ _)
          · go_wp2_with (go_at_call 99; (with_reducible refine (HD.out _).mono ?_); rintro e w' ⟨rfl, rfl⟩)
            go_round
            case rel => exact ⟨k + 1, n * 10 + d, by omega, by go_num, rfl, by omega, by rw [hsu.out]; omega, by rw [← HR.out, HC.out, HST.out, if_neg (by omega)]⟩
            case measure => simp [intOf]; omega
        · have hd : s.data.toList.drop k = [] := List.drop_eq_nil_of_le (by rw [size_list]; omega)
          have HD := Lib.hid hd; clear hd
          have HN2 : Hid (S.numbered s.data.toList 10 = if S.allowed n then S.encode n else []) := Lib.hid (by rw [HN.out, ← HR.out, HD.out]; rfl)
          by_cases ha : S.allowed n = true
          · have HA := Lib.hid ha
            go_wp2_with (first | (go_at_call 28; (with_reducible refine (allowed_any _ _).mono ?_); rintro e w' ⟨rfl, rfl⟩) | (go_at_call 100; (with_reducible refine (enc_any _ _).mono ?_); rintro e w' ⟨rfl, hb⟩))
            go_ret
            exact str_said (by rw [HN2.out, if_pos HA.out]) hb
          · have HA := Lib.hid ha
            have ha' := Bool.eq_false_iff.2 ha; clear ha
            go_wp2_with (first | (go_at_call 28; (with_reducible refine (allowed_any _ _).mono ?_); rintro e w' ⟨rfl, rfl⟩) | (go_at_call 100; (with_reducible refine (enc_any _ _).mono ?_); rintro e w' ⟨rfl, hb⟩))
            go_ret
            exact str_said (by rw [HN2.out, if_neg HA.out]) (Below.refl _ _)
    · have HN : Hid (S.numbered s.data.toList 10 = []) := Lib.hid (by unfold S.numbered; rw [if_pos]; rw [size_list]; right; omega)
      go_enter Try.func83, Try.ntmps83
      go_wp2
      go_ret
      exact str_said HN.out.symm (Below.refl _ _)
  · have hte : s = ByteArray.empty := by apply ByteArray.ext; apply Array.ext'; rw [List.eq_nil_of_length_eq_zero (show s.data.toList.length = 0 by rw [size_list]; omega)]; rfl
    subst hte
    go_enter Try.func83, Try.ntmps83
    go_wp2
    go_ret
    exact str_said rfl (Below.refl _ _)
set_option maxHeartbeats 1000000 in
theorem numbered_16 (s : ByteArray) (w : World) (hs : s.size ≤ 1000000000) : Calls Try.prog 83 #[.string s, .int .i64 16] w (StrSaid (S.numbered s.data.toList 16) w) := by
  by_cases h0 : 0 < s.size
  · have hne := ne_empty s h0
    have hne1 := ne_list s h0
    have hne2 := ne_list2 s h0
    by_cases h8 : s.size ≤ 8
    · have HN : Hid (S.numbered s.data.toList 16 = match S.digitsF 16 s.data.toList 0 with | none => [] | some n => if S.allowed n then S.encode n else []) := Lib.hid (by
        unfold S.numbered; rw [if_neg (show ¬ (s.data.toList = [] ∨ 8 < s.data.toList.length) from by have := ne_nil s h0; rw [size_list]; simp only [this, false_or]; omega)]; rfl)
      go_enter Try.func83, Try.ntmps83
      go_wp2
      go_loop [5, 17] (fun c i => ∃ (k : Nat) (n : Int), k ≤ s.size ∧ i = .int .i64 k ∧ c = .int .i64 n ∧ 0 ≤ n ∧ n < nb k ∧ S.digitsF 16 (s.data.toList.drop k) n = S.digitsF 16 s.data.toList 0) (fun _ i => s.size - (intOf i).toNat)
      case atStart => exact ⟨0, 0, by omega, rfl, rfl, by omega, by decide, rfl⟩
      case round =>
        obtain ⟨k, n, hk, rfl, rfl, hn0, hn1, hr⟩ := hrel
        have HR := Lib.hid hr; clear hr
        by_cases hlt : k < s.size
        · have hdx := digit_any s[k]
          have HC := Lib.hid (cons_at s.data.toList k s[k] (by rw [size_list]; exact hlt) (getD_at s k hlt))
          have HST := Lib.hid (digitsF_step 16 s[k] (s.data.toList.drop (k + 1)) n)
          have hhi := S.digit_hi s[k]
          generalize S.digit s[k] = d at *
          have HD := Lib.hid hdx; clear hdx
          have hsu := Lib.hid (nb_succ k)
          have hle := nb_le k (by omega)
          by_cases hd : d < 0
          · go_wp2_with (go_at_call 99; (with_reducible refine (HD.out _).mono ?_); rintro e w' ⟨rfl, rfl⟩)
            go_ret
            exact str_said (by rw [HN.out, ← HR.out, HC.out, HST.out, if_pos (.inl hd)]) (Below.refl _ _)
          by_cases hd2 : 16 ≤ d
          · go_wp2_with (go_at_call 99; (with_reducible refine (HD.out _).mono ?_); rintro e w' ⟨rfl, rfl⟩)
            go_ret
            exact str_said (by rw [HN.out, ← HR.out, HC.out, HST.out, if_pos (.inr hd2)]) (Below.refl _ _)
          · go_wp2_with (go_at_call 99; (with_reducible refine (HD.out _).mono ?_); rintro e w' ⟨rfl, rfl⟩)
            go_round
            case rel => exact ⟨k + 1, n * 16 + d, by omega, by go_num, rfl, by omega, by rw [hsu.out]; omega, by rw [← HR.out, HC.out, HST.out, if_neg (by omega)]⟩
            case measure => simp [intOf]; omega
        · have hd : s.data.toList.drop k = [] := List.drop_eq_nil_of_le (by rw [size_list]; omega)
          have HD := Lib.hid hd; clear hd
          have HN2 : Hid (S.numbered s.data.toList 16 = if S.allowed n then S.encode n else []) := Lib.hid (by rw [HN.out, ← HR.out, HD.out]; rfl)
          by_cases ha : S.allowed n = true
          · have HA := Lib.hid ha
            go_wp2_with (first | (go_at_call 28; (with_reducible refine (allowed_any _ _).mono ?_); rintro e w' ⟨rfl, rfl⟩) | (go_at_call 100; (with_reducible refine (enc_any _ _).mono ?_); rintro e w' ⟨rfl, hb⟩))
            go_ret
            exact str_said (by rw [HN2.out, if_pos HA.out]) hb
          · have HA := Lib.hid ha
            have ha' := Bool.eq_false_iff.2 ha; clear ha
            go_wp2_with (first | (go_at_call 28; (with_reducible refine (allowed_any _ _).mono ?_); rintro e w' ⟨rfl, rfl⟩) | (go_at_call 100; (with_reducible refine (enc_any _ _).mono ?_); rintro e w' ⟨rfl, hb⟩))
            go_ret
            exact str_said (by rw [HN2.out, if_neg HA.out]) (Below.refl _ _)
    · have HN : Hid (S.numbered s.data.toList 16 = []) := Lib.hid (by unfold S.numbered; rw [if_pos]; rw [size_list]; right; omega)
      go_enter Try.func83, Try.ntmps83
      go_wp2
      go_ret
      exact str_said HN.out.symm (Below.refl _ _)
  · have hte : s = ByteArray.empty := by apply ByteArray.ext; apply Array.ext'; rw [List.eq_nil_of_length_eq_zero (show s.data.toList.length = 0 by rw [size_list]; omega)]; rfl
    subst hte
    go_enter Try.func83, Try.ntmps83
    go_wp2
    go_ret
    exact str_said rfl (Below.refl _ _)
end Go.Proofs.Ytpfalkdkiffipaa
