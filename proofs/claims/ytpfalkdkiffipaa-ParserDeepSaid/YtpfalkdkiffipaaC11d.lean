/- Spaces and names: chars.Space, Skip, NameEnd. -/
import Derived.Test.YtpfalkdkiffipaaC11c
namespace Go.Proofs.Ytpfalkdkiffipaa
open Go.RowKit
attribute [local go_sem] byt_at byt_wrap
theorem getD_at (s : ByteArray) (k : Nat) (h : k < s.size) : s.data.toList.getD k 0 = s[k] := by
  have h2 : k < s.data.toList.length := by simpa using h
  rw [List.getD_eq_getElem?_getD, List.getElem?_eq_getElem h2, Option.getD_some]; rfl
theorem byt_back (c : UInt8) : (byt c).toNat.toUInt8 = c := by unfold byt; simp
theorem space_index (c : UInt8) : decide (0 ≤ Lib.indexByte ([32, 9, 10, 13] : List UInt8) c) = S.isSpace c := by
  have h : ∀ n : Fin 256, decide (0 ≤ Lib.indexByte ([32, 9, 10, 13] : List UInt8) (UInt8.ofNat n.val)) = S.isSpace (UInt8.ofNat n.val) := by decide +kernel
  have := h ⟨c.toNat, c.toNat_lt⟩
  simpa using this
set_option maxHeartbeats 400000 in
theorem space_any (c : UInt8) (w : World) : Calls Try.prog 60 #[.int .u8 (byt c)] w fun e w' => e = .returned (.bool (S.isSpace c)) ∧ w = w' := by
  have hb := Try.strings_IndexByte ⟨#[32, 9, 10, 13]⟩ (byt c) w
  rw [byt_back] at hb
  have HB := Lib.hid hb; clear hb
  have HS := Lib.hid (space_index c)
  generalize hx : Lib.indexByte ([32, 9, 10, 13] : List UInt8) c = x at HB HS
  go_enter Try.func60, Try.ntmps60
  go_wp2_with (go_at_call 69; (with_reducible refine HB.out.mono ?_); rintro e w' ⟨rfl, hww⟩)
  subst hww
  all_goals (go_ret; exact ⟨ret_bool (by rw [← HS.out]), rfl⟩)
def spaceIs (s : ByteArray) (k : Nat) : Bool := S.isSpace (s.data.toList.getD k 0)
set_option maxHeartbeats 400000 in
theorem skip_is (s : ByteArray) (k b : Nat) (w : World) (hk : k < s.size) (hc : w.cell? ⟨b, 0, none⟩ = some (.string s)) : Calls Try.prog 59 #[.int .i64 k, .pointer (some ⟨b, 0, none⟩)] w fun e w' => e = .returned (.bool (spaceIs s k)) ∧ w = w' := by
  go_enter Try.func59, Try.ntmps59
  go_wp2_with (go_at_call 60; (with_reducible refine (space_any _ _).mono ?_); rintro e w' ⟨rfl, rfl⟩)
  go_ret
  exact ⟨ret_bool (by rw [spaceIs, getD_at s k hk]), rfl⟩
/-- the bytes that may be in a name at place k, the name having begun at place 'at' -/
def nameIs (s : ByteArray) (at_ k : Nat) : Bool := S.isFirst (s.data.toList.getD k 0) || (S.isMore (s.data.toList.getD k 0) && decide (at_ < k))
theorem first_iff (c : UInt8) : S.isFirst c = ((decide (97 ≤ byt c) && decide (byt c ≤ 122)) || (decide (65 ≤ byt c) && decide (byt c ≤ 90)) || decide (byt c = 95)) := by
  unfold S.isFirst byt; rw [Bool.eq_iff_iff]; simp [← UInt8.toNat_inj]; omega
theorem more_iff (c : UInt8) : S.isMore c = ((decide (48 ≤ byt c) && decide (byt c ≤ 57)) || decide (byt c = 45) || decide (byt c = 46)) := by
  unfold S.isMore byt; rw [Bool.eq_iff_iff]; simp [← UInt8.toNat_inj]; omega
set_option maxHeartbeats 1000000 in
theorem name_is (s : ByteArray) (k at_ b b2 : Nat) (w : World) (hk : k < s.size) (hc : w.cell? ⟨b, 0, none⟩ = some (.string s)) (hc2 : w.cell? ⟨b2, 0, none⟩ = some (.int .i64 at_)) : Calls Try.prog 67 #[.int .i64 k, .pointer (some ⟨b, 0, none⟩), .pointer (some ⟨b2, 0, none⟩)] w fun e w' => e = .returned (.bool (nameIs s at_ k)) ∧ w = w' := by
  have hf := first_iff s[k]
  have hm := more_iff s[k]
  have HN : Hid (nameIs s at_ k = (S.isFirst s[k] || (S.isMore s[k] && decide (at_ < k)))) := Lib.hid (by unfold nameIs; rw [getD_at s k hk])
  generalize S.isFirst s[k] = fi at *
  generalize S.isMore s[k] = mo at *
  have HF := Lib.hid hf
  have HM := Lib.hid hm
  clear hf hm
  go_enter Try.func67, Try.ntmps67
  go_wp2
  all_goals
    go_ret
    refine ⟨ret_bool ?_, rfl⟩
    rw [HN.out, HF.out, HM.out, Bool.eq_iff_iff]
    simp only [beq_iff_eq, beq_eq_false_iff_ne, ne_eq, Bool.or_eq_true, Bool.and_eq_true, decide_eq_true_eq, Bool.false_eq_true, true_iff, false_iff] at *
    omega

def runAt (p : Nat → Bool) : Nat → Nat → Nat
  | 0, k => k
  | n + 1, k => if p k then runAt p n (k + 1) else k
theorem runAt_le (p : Nat → Bool) (n : Nat) : ∀ k, runAt p n k ≤ k + n := by
  induction n with
  | zero => intro k; simp [runAt]
  | succ n ih => intro k; simp only [runAt]; split; exact Nat.le_trans (ih _) (by omega); omega
theorem runAt_ge (p : Nat → Bool) (n : Nat) : ∀ k, k ≤ runAt p n k := by
  induction n with
  | zero => intro k; simp [runAt]
  | succ n ih => intro k; simp only [runAt]; split; exact Nat.le_trans (by omega) (ih _); omega
set_option maxHeartbeats 1000000 in
theorem from_skip (s : ByteArray) (k0 : Nat) (b : Nat) (w : World) (hs : s.size ≤ 1000000000) (hk0 : k0 ≤ s.size) (hc : w.cell? ⟨b, 0, none⟩ = some (.string s)) :
    Calls Try.prog 58 #[.string s, .int .i64 k0, .func (.func 59) #[] #[.pointer (some ⟨b, 0, none⟩)]] w fun e w' => e = .returned (.int .i64 (runAt (spaceIs s) (s.size - k0) k0 : Nat)) ∧ w = w' := by
  go_enter Try.func58, Try.ntmps58
  go_wp2
  go_loop [1] (fun v => ∃ k : Nat, k0 ≤ k ∧ k ≤ s.size ∧ v = .int .i64 k ∧ runAt (spaceIs s) (s.size - k) k = runAt (spaceIs s) (s.size - k0) k0) (fun v => s.size - (intOf v).toNat)
  case atStart => exact ⟨k0, by omega, hk0, rfl, rfl⟩
  case round =>
    obtain ⟨k, hk1, hk2, rfl, hr⟩ := hrel
    have HR := Lib.hid hr; clear hr
    by_cases hlt : k < s.size
    · have hi := skip_is s k b w hlt hc
      have hst : runAt (spaceIs s) (s.size - k) k = if (spaceIs s) k then runAt (spaceIs s) (s.size - (k + 1)) (k + 1) else k := by
        rw [show s.size - k = (s.size - (k + 1)) + 1 from by omega]; rfl
      have HST := Lib.hid hst; clear hst
      have HI := Lib.hid hi; clear hi
      by_cases hp : (spaceIs s) k = true
      · have HP := Lib.hid hp
        go_wp2_with (go_at_call 59; (with_reducible refine HI.out.mono ?_); rintro e w' ⟨rfl, rfl⟩)
        go_round
        case rel => exact ⟨k + 1, by omega, by omega, by go_num, by rw [← HR.out, HST.out, if_pos HP.out]⟩
        case measure => simp [intOf]; omega
      · have hp' := Bool.eq_false_iff.2 hp; clear hp
        have HP := Lib.hid hp'
        go_wp2_with (go_at_call 59; (with_reducible refine HI.out.mono ?_); rintro e w' ⟨rfl, rfl⟩)
        go_ret
        exact ⟨ret_int (by rw [← HR.out, HST.out, HP.out]; rfl), rfl⟩
    · have hke : k = s.size := by omega
      subst hke
      go_wp2
      go_ret
      exact ⟨ret_int (by rw [← HR.out]; simp [runAt]), rfl⟩
set_option maxHeartbeats 1000000 in
theorem from_name (s : ByteArray) (k0 : Nat) (at_ b b2 : Nat) (w : World) (hs : s.size ≤ 1000000000) (hk0 : k0 ≤ s.size) (hc : w.cell? ⟨b, 0, none⟩ = some (.string s)) (hc2 : w.cell? ⟨b2, 0, none⟩ = some (.int .i64 at_)) :
    Calls Try.prog 58 #[.string s, .int .i64 k0, .func (.func 67) #[] #[.pointer (some ⟨b, 0, none⟩), .pointer (some ⟨b2, 0, none⟩)]] w fun e w' => e = .returned (.int .i64 (runAt (nameIs s at_) (s.size - k0) k0 : Nat)) ∧ w = w' := by
  go_enter Try.func58, Try.ntmps58
  go_wp2
  go_loop [1] (fun v => ∃ k : Nat, k0 ≤ k ∧ k ≤ s.size ∧ v = .int .i64 k ∧ runAt (nameIs s at_) (s.size - k) k = runAt (nameIs s at_) (s.size - k0) k0) (fun v => s.size - (intOf v).toNat)
  case atStart => exact ⟨k0, by omega, hk0, rfl, rfl⟩
  case round =>
    obtain ⟨k, hk1, hk2, rfl, hr⟩ := hrel
    have HR := Lib.hid hr; clear hr
    by_cases hlt : k < s.size
    · have hi := name_is s k at_ b b2 w hlt hc hc2
      have hst : runAt (nameIs s at_) (s.size - k) k = if (nameIs s at_) k then runAt (nameIs s at_) (s.size - (k + 1)) (k + 1) else k := by
        rw [show s.size - k = (s.size - (k + 1)) + 1 from by omega]; rfl
      have HST := Lib.hid hst; clear hst
      have HI := Lib.hid hi; clear hi
      by_cases hp : (nameIs s at_) k = true
      · have HP := Lib.hid hp
        go_wp2_with (go_at_call 67; (with_reducible refine HI.out.mono ?_); rintro e w' ⟨rfl, rfl⟩)
        go_round
        case rel => exact ⟨k + 1, by omega, by omega, by go_num, by rw [← HR.out, HST.out, if_pos HP.out]⟩
        case measure => simp [intOf]; omega
      · have hp' := Bool.eq_false_iff.2 hp; clear hp
        have HP := Lib.hid hp'
        go_wp2_with (go_at_call 67; (with_reducible refine HI.out.mono ?_); rintro e w' ⟨rfl, rfl⟩)
        go_ret
        exact ⟨ret_int (by rw [← HR.out, HST.out, HP.out]; rfl), rfl⟩
    · have hke : k = s.size := by omega
      subst hke
      go_wp2
      go_ret
      exact ⟨ret_int (by rw [← HR.out]; simp [runAt]), rfl⟩
theorem run_skip (s : ByteArray) (n : Nat) : ∀ k, k + n = s.size → runAt (spaceIs s) n k = k + S.skipLen (s.data.toList.drop k) := by
  induction n with
  | zero => intro k hk; rw [runAt, List.drop_eq_nil_of_le (by rw [size_list]; omega)]; simp [S.skipLen, S.runLen]
  | succ n ih =>
    intro k hk
    have h : k < s.data.toList.length := by rw [size_list]; omega
    rw [cons_at _ k _ h rfl, S.skipLen, S.runLen, runAt]
    unfold spaceIs
    split
    · have := ih (k + 1) (by omega); unfold spaceIs at this; rw [this, S.skipLen]; omega
    · rfl
theorem run_name1 (s : ByteArray) (a n : Nat) : ∀ k, a < k → k + n = s.size → runAt (nameIs s a) n k = k + S.runLen S.isName (s.data.toList.drop k) := by
  induction n with
  | zero => intro k _ hk; rw [runAt, List.drop_eq_nil_of_le (by rw [size_list]; omega)]; simp [S.runLen]
  | succ n ih =>
    intro k ha hk
    have h : k < s.data.toList.length := by rw [size_list]; omega
    rw [cons_at _ k _ h rfl, S.runLen, runAt]
    have e : nameIs s a k = S.isName (s.data.toList.getD k 0) := by unfold nameIs S.isName; simp [ha]
    rw [e]
    split
    · rw [ih (k + 1) (by omega) (by omega)]; omega
    · rfl
theorem run_name (s : ByteArray) (n k : Nat) (hk : k + n = s.size) : runAt (nameIs s k) n k = k + S.nameLen (s.data.toList.drop k) := by
  cases n with
  | zero => rw [runAt, List.drop_eq_nil_of_le (by rw [size_list]; omega)]; simp [S.nameLen]
  | succ n =>
    have h : k < s.data.toList.length := by rw [size_list]; omega
    rw [cons_at _ k _ h rfl, S.nameLen, runAt]
    have e : nameIs s k k = S.isFirst (s.data.toList.getD k 0) := by unfold nameIs; simp
    rw [e]
    split
    · rw [run_name1 s k n (k + 1) (by omega) (by omega)]; omega
    · rfl
/-- where the first byte that is no space stands, from a place on -/
def skipI (s : ByteArray) (i : Int) : Int := i + S.skipLen (s.data.toList.drop i.toNat)
def nameI (s : ByteArray) (i : Int) : Int := i + S.nameLen (s.data.toList.drop i.toNat)
theorem skipI_lo (s : ByteArray) (i : Int) : i ≤ skipI s i := by unfold skipI; omega
theorem nameI_lo (s : ByteArray) (i : Int) : i ≤ nameI s i := by unfold nameI; omega
theorem skipI_hi (s : ByteArray) (i : Int) (h0 : 0 ≤ i) (h1 : i ≤ s.size) : skipI s i ≤ s.size := by
  unfold skipI; have := S.runLen_le S.isSpace (s.data.toList.drop i.toNat); rw [List.length_drop, size_list] at this; unfold S.skipLen; omega
theorem nameI_hi (s : ByteArray) (i : Int) (h0 : 0 ≤ i) (h1 : i ≤ s.size) : nameI s i ≤ s.size := by
  unfold nameI; have := S.nameLen_le (s.data.toList.drop i.toNat); rw [List.length_drop, size_list] at this; omega
def IntSaid (n : Int) (w : World) (e : Ending) (w' : World) : Prop := e = .returned (.int .i64 n) ∧ Below w.heap.size w w'
theorem int_said {n a : Int} {w w' : World} (h : a = n) (hb : Below w.heap.size w w') : IntSaid n w (.returned (.int .i64 a)) w' := ⟨by rw [h], hb⟩
set_option maxHeartbeats 400000 in
theorem skip_nat (s : ByteArray) (k : Nat) (w : World) (hs : s.size ≤ 1000000000) (hk : k ≤ s.size) : Calls Try.prog 38 #[.string s, .int .i64 k] w (IntSaid (skipI s k) w) := by
  have h := from_skip s k w.heap.size (w.alloc (.cells #[.string s] 9)) hs hk (by simp)
  have HF := Lib.hid h; clear h
  have HR := Lib.hid (run_skip s (s.size - k) k (by omega))
  go_enter Try.func38, Try.ntmps38
  go_wp2_with (go_at_call 58; (with_reducible refine HF.out.mono ?_); rintro e w' ⟨rfl, rfl⟩)
  go_ret
  exact int_said (by rw [HR.out, skipI]; simp) ((Below.refl _ _).alloc (Nat.le_refl _) _)
set_option maxHeartbeats 400000 in
theorem name_nat (s : ByteArray) (k : Nat) (w : World) (hs : s.size ≤ 1000000000) (hk : k ≤ s.size) : Calls Try.prog 54 #[.string s, .int .i64 k] w (IntSaid (nameI s k) w) := by
  have h := from_name s k k w.heap.size (w.heap.size + 1) ((w.alloc (.cells #[.string s] 9)).alloc (.cells #[.int .i64 k] 3)) hs hk (by simp) (by simp)
  have HF := Lib.hid h; clear h
  have HR := Lib.hid (run_name s (s.size - k) k (by omega))
  go_enter Try.func54, Try.ntmps54
  go_wp2_with (go_at_call 58; (with_reducible refine HF.out.mono ?_); rintro e w' ⟨rfl, rfl⟩)
  go_ret
  exact int_said (by rw [HR.out, nameI]; simp) (((Below.refl _ _).alloc (Nat.le_refl _) _).alloc (by simp) _)
theorem skip_any (s : ByteArray) (i : Int) (w : World) (hs : s.size ≤ 1000000000) (h0 : 0 ≤ i) (h1 : i ≤ s.size) : Calls Try.prog 38 #[.string s, .int .i64 i] w (IntSaid (skipI s i) w) := by
  obtain ⟨k, rfl⟩ := Int.eq_ofNat_of_zero_le h0; exact skip_nat s k w hs (by omega)
theorem name_any (s : ByteArray) (i : Int) (w : World) (hs : s.size ≤ 1000000000) (h0 : 0 ≤ i) (h1 : i ≤ s.size) : Calls Try.prog 54 #[.string s, .int .i64 i] w (IntSaid (nameI s i) w) := by
  obtain ⟨k, rfl⟩ := Int.eq_ofNat_of_zero_le h0; exact name_nat s k w hs (by omega)
end Go.Proofs.Ytpfalkdkiffipaa
