/- What the reference's Valid and Escape compute. -/
import Derived.Test.YtpfalkdkiffipaaR11c
namespace Go.Proofs.Ytpfalkdkiffipaa
open Go.RowKit
set_option maxRecDepth 100000
attribute [local go_sem] byt_at byt_wrap
set_option maxHeartbeats 1000000 in
theorem rvalid_any (s : ByteArray) (w : World) (hs : s.size ≤ 1000000000) : Calls Try.prog 8 #[.string s] w (ValidSaid s w) := by
  go_enter Try.func8, Try.ntmps8
  go_wp2
  go_loopw [3] (fun v wr => ∃ (k f : Nat), v = .int .i64 k ∧ k ≤ s.size ∧ s.size ≤ k + f ∧ S.validF f (s.data.toList.drop k) = S.valid s.data.toList ∧ Below w.heap.size w wr) (fun v _ => s.size - (intOf v).toNat)
  case atStart => exact ⟨0, s.size, rfl, by omega, by omega, by rw [S.valid, size_list]; rfl, Below.refl _ _⟩
  case round =>
    obtain ⟨k, f, rfl, hk, hf, hv, hbl⟩ := hrel
    have HV := Lib.hid hv; clear hv
    have HB := Lib.hid hbl; clear hbl
    by_cases h0 : k < s.size
    · have hr := rrune_any s k wr hs h0
      obtain ⟨f, rfl⟩ : ∃ m, f = m + 1 := ⟨f - 1, by omega⟩
      have hne : s.data.toList.drop k ≠ [] := by intro h; have := congrArg List.length h; rw [List.length_drop, size_list] at this; simp at this; omega
      have HST := Lib.hid (validF_step f _ hne)
      have hle := S.rune_le (s.data.toList.drop k)
      rw [List.length_drop, size_list] at hle
      have HLE := Lib.hid hle
      have HR := Lib.hid hr
      clear hr hne hle
      go_wp2_with fail
      refine HR.out.mono ?_
      rintro e w2 ⟨code, n, rfl, hcn, hb2⟩
      have hle2 := HLE.out
      rw [hcn.out] at hle2
      have hle3 : n ≤ s.size - k := hle2
      clear hle2
      have HB2 := Lib.hid (HB.out.trans (hb2.mono HB.out.size)); clear hb2
      go_wp2_with fail
      refine (rallowed_any _ _).mono ?_
      rintro e w3 ⟨rfl, rfl⟩
      by_cases hn0 : n = 0
      · subst hn0
        go_wp2_with fail
        go_ret
        exact valid_said (by rw [← HV.out, HST.out, hcn.out]; rfl) HB2.out
      · have hn1 : ((n : Int) == 0) = false := by simp; omega
        by_cases ha : S.allowed code = true
        · have HA := Lib.hid ha
          go_wp2_with fail
          go_roundw
          case rel => exact ⟨k + n, f, by go_num, by omega, by omega, by rw [← HV.out, HST.out, hcn.out, HA.out, if_neg (by simpa using hn0), List.drop_drop], HB2.out⟩
          case measure => simp [intOf]; omega
        · have ha' := Bool.eq_false_iff.2 ha; clear ha
          have HA := Lib.hid ha'
          go_wp2_with fail
          go_ret
          exact valid_said (by rw [← HV.out, HST.out, hcn.out, HA.out]; simp) HB2.out
    · have he : s.data.toList.drop k = [] := List.drop_eq_nil_of_le (by rw [size_list]; omega)
      have HE := Lib.hid he; clear he
      go_wp2
      go_ret
      exact valid_said (by rw [← HV.out, HE.out]; cases f <;> rfl) HB.out
theorem escape_snoc (l : S.B) (c : UInt8) : S.escape (l ++ [c]) = S.escape l ++ S.esc1 c := by simp [S.escape]
theorem escape_len (l : S.B) : (S.escape l).length ≤ 6 * l.length := by
  induction l with
  | nil => simp [S.escape]
  | cons c l ih => have := S.esc1_len c; simp only [S.escape, List.flatMap_cons, List.length_append, List.length_cons] at *; omega
theorem esc1_iff (c : UInt8) : S.esc1 c = if byt c = 38 then [38, 97, 109, 112, 59] else if byt c = 60 then [38, 108, 116, 59] else if byt c = 62 then [38, 103, 116, 59] else if byt c = 34 then [38, 113, 117, 111, 116, 59] else [c] := by
  have e : ∀ k : Nat, (h : k < 256) → ((c = UInt8.ofNat k) ↔ byt c = k) := fun k h => by
    unfold byt; rw [← UInt8.toNat_inj]; simp; omega
  unfold S.esc1
  have e1 : c = 38 ↔ byt c = 38 := e 38 (by omega)
  have e2 : c = 60 ↔ byt c = 60 := e 60 (by omega)
  have e3 : c = 62 ↔ byt c = 62 := e 62 (by omega)
  have e4 : c = 34 ↔ byt c = 34 := e 34 (by omega)
  simp only [e1, e2, e3, e4]
theorem append_list (a b : ByteArray) : (a ++ b).data.toList = a.data.toList ++ b.data.toList := by simp
theorem take_snoc (s : ByteArray) (k : Nat) (h : k < s.size) : s.data.toList.take (k + 1) = s.data.toList.take k ++ [s[k]] := by
  rw [List.take_succ_eq_append_getElem (by simpa using h)]; rfl
set_option maxHeartbeats 1000000 in
theorem rescape_any (s : ByteArray) (w : World) (hs : s.size ≤ 1000000000) : Calls Try.prog 10 #[.string s] w (StrSaid (S.escape s.data.toList) w) := by
  go_enter Try.func10, Try.ntmps10
  go_wp2
  go_loopw [3, 4] (fun v i wr => ∃ (k : Nat) (t : ByteArray), i = .int .i64 k ∧ k ≤ s.size ∧ v = .string t ∧ t.data.toList = S.escape (s.data.toList.take k) ∧ Below w.heap.size w wr) (fun _ i _ => s.size - (intOf i).toNat)
  case atStart => exact ⟨0, _, rfl, by omega, rfl, rfl, Below.refl _ _⟩
  case round =>
    obtain ⟨k, t, rfl, hk, rfl, ht, hbl⟩ := hrel
    have HT := Lib.hid ht; clear ht
    have HB := Lib.hid hbl; clear hbl
    have htl : t.size ≤ 6 * s.size := by
      rw [← size_list, HT.out]
      have h1 := escape_len (s.data.toList.take k)
      have h2 : (s.data.toList.take k).length ≤ s.size := by rw [List.length_take, size_list]; omega
      omega
    by_cases h0 : k < s.size
    · have hE := esc1_iff s[k]
      have HTS := Lib.hid (take_snoc s k h0)
      have HE := Lib.hid hE; clear hE
      have hex : (s.extract k (k + 1)).data.toList = [s[k]] := by rw [extract_list, cons_at s.data.toList k s[k] (by rw [size_list]; exact h0) (getD_at s k h0)]; simp
      have HEX := Lib.hid hex; clear hex
      go_wp2
      all_goals
        go_roundw
        case rel =>
          refine ⟨k + 1, _, by go_num, by omega, rfl, ?_, HB.out⟩
          rw [append_list, HT.out, HTS.out, escape_snoc, HE.out]
          try rw [HEX.out]
          simp only [beq_iff_eq, beq_eq_false_iff_ne, ne_eq] at *
          simp_all
        case measure => simp [intOf]; omega
    · have hks : k = s.size := by omega
      have hall : s.data.toList.take k = s.data.toList := by rw [hks]; exact List.take_of_length_le (by rw [size_list]; omega)
      have HA := Lib.hid hall; clear hall hks
      go_wp2
      go_ret
      exact str_said (by rw [HT.out, HA.out]) HB.out
end Go.Proofs.Ytpfalkdkiffipaa
