/- What chars.Valid computes. -/
import Derived.Test.YtpfalkdkiffipaaC11b
namespace Go.Proofs.Ytpfalkdkiffipaa
open Go.RowKit
def strSize : Value → Nat | .string t => t.size | _ => 0
theorem strSize_string (t : ByteArray) : strSize (.string t) = t.size := rfl
theorem size_list (t : ByteArray) : t.data.toList.length = t.size := by simp
theorem validF_step (k : Nat) (l : S.B) (h : l ≠ []) : S.validF (k + 1) l = if (S.rune l).2 = 0 || !S.allowed (S.rune l).1 then false else S.validF k (l.drop (S.rune l).2) := by
  cases l with
  | nil => exact absurd rfl h
  | cons c l => rfl
theorem ne_nil (t : ByteArray) (h : 0 < t.size) : t.data.toList ≠ [] := by rw [bytes_cons t h]; simp
theorem ne_empty (t : ByteArray) (h : 0 < t.size) : ¬ t = ByteArray.empty := by intro h; subst h; simp at h
theorem rune_call (s : ByteArray) (w : World) (h1 : 1 ≤ s.size) (h2 : s.size ≤ 1000000000) : Calls Try.prog 27 #[.string s, .int .i64 0] w (fun e w' => ∃ (code : Int) (n : Nat), e = .returned (.tuple #[.int .i64 code, .int .i64 n]) ∧ Hid (S.rune s.data.toList = (code, n)) ∧ n ≤ s.size ∧ Below w.heap.size w w') :=
  (rune_any s w h1 h2).mono fun _ _ ⟨he, hb⟩ => ⟨_, _, he, Lib.hid rfl, by rw [← size_list]; exact S.rune_le _, hb⟩
theorem drop_list (s : ByteArray) (n : Nat) : (s.extract n s.size).data.toList = s.data.toList.drop n := by
  rw [extract_list, ← size_list, List.take_of_length_le (by simp)]
def ValidSaid (s : ByteArray) (w : World) (e : Ending) (w' : World) : Prop := e = .returned (.bool (S.valid s.data.toList)) ∧ Below w.heap.size w w'
theorem valid_said {s : ByteArray} {w w' : World} {b : Bool} (h : S.valid s.data.toList = b) (hb : Below w.heap.size w w') : ValidSaid s w (.returned (.bool b)) w' := ⟨by rw [h], hb⟩
set_option maxHeartbeats 1000000 in
theorem valid_any (s : ByteArray) (w : World) (hs : s.size ≤ 1000000000) : Calls Try.prog 18 #[.string s] w (ValidSaid s w) := by
  go_enter Try.func18, Try.ntmps18
  go_wp2
  go_loopw [0] (fun v wr => ∃ (t : ByteArray) (k : Nat), v = .string t ∧ t.size ≤ k ∧ t.size ≤ s.size ∧ S.validF k t.data.toList = S.valid s.data.toList ∧ Below w.heap.size w wr) (fun v _ => strSize v)
  case atStart => exact ⟨s, s.size, rfl, by omega, by omega, by rw [S.valid, size_list], Below.refl _ _⟩
  case round =>
    obtain ⟨t, k, rfl, hk, hts, hv, hbl⟩ := hrel
    have HV := Lib.hid hv; clear hv
    by_cases h0 : 0 < t.size
    · have hr := rune_call t wr (by omega) (by omega)
      obtain ⟨k, rfl⟩ : ∃ m, k = m + 1 := ⟨k - 1, by omega⟩
      have HST := Lib.hid (validF_step k t.data.toList (ne_nil t h0))
      have HNE := ne_empty t h0
      have HR := Lib.hid hr
      clear hr
      go_wp2_with (first | (go_at_call 27; (with_reducible refine HR.out.mono ?_); rintro e w' ⟨code, n, rfl, hcn, hle, hb2⟩; by_cases hn0 : n = 0) | (go_at_call 28; (with_reducible refine (allowed_any _ _).mono ?_); rintro e w' ⟨rfl, rfl⟩; by_cases ha : S.allowed code = true))
      · go_ret
        exact valid_said (by rw [← HV.out, HST.out, hcn.out]; simp [hn0]) (hbl.trans (hb2.mono hbl.size))
      · have HA := Lib.hid ha; clear ha
        go_roundw
        case rel => exact ⟨_, k, rfl, by rw [ByteArray.size_extract]; omega, by rw [ByteArray.size_extract]; omega, by rw [← HV.out, HST.out, hcn.out, drop_list, HA.out, if_neg (by simpa using hn0)], hbl.trans (hb2.mono hbl.size)⟩
        case measure => simp only [strSize_string]; rw [ByteArray.size_extract]; omega
      · have ha' := Bool.eq_false_iff.2 ha
        go_wp2
        go_ret
        exact valid_said (by rw [← HV.out, HST.out, hcn.out]; simp [ha']) (hbl.trans (hb2.mono hbl.size))
    · have he : t.data.toList = [] := by apply List.eq_nil_of_length_eq_zero; rw [size_list]; omega
      have HE := Lib.hid he; clear he
      have hte : t = ByteArray.empty := by apply ByteArray.ext; apply Array.ext'; rw [HE.out]; rfl
      subst hte
      go_wp2
      go_ret
      exact valid_said (by rw [← HV.out, HE.out]; cases k <;> rfl) hbl
end Go.Proofs.Ytpfalkdkiffipaa
