/- What the reference's Rune computes: the walk. -/
import Derived.Test.YtpfalkdkiffipaaR11a
import Derived.Test.YtpfalkdkiffipaaR11b
namespace Go.Proofs.Ytpfalkdkiffipaa
open Go.RowKit
set_option maxRecDepth 100000
attribute [local go_sem] byt_at byt_wrap
/-- the number so far, i bytes read -/
def rawI (n i : Nat) (l : S.B) : Int := if i = 0 then 0 else match l with | [] => 0 | b :: t => S.rawRest (t.take (i - 1)) (b.toNat - S.less n)
theorem rawRest_snoc (l : S.B) (b : UInt8) : ∀ c, S.rawRest (l ++ [b]) c = S.rawRest l c * 64 + b.toNat - 128 := by
  induction l with
  | nil => intro c; rfl
  | cons a l ih => intro c; simp only [List.cons_append, S.rawRest]; exact ih _
theorem less_bd (n : Nat) : 0 ≤ S.less n ∧ S.less n ≤ 240 := by unfold S.less; (repeat' split) <;> omega
theorem rawRest_bd (l : S.B) : ∀ (c B : Int), -B ≤ c → c ≤ B → 128 ≤ B → -(B * 65 ^ l.length) ≤ S.rawRest l c ∧ S.rawRest l c ≤ B * 65 ^ l.length := by
  induction l with
  | nil => intro c B h1 h2 _; simp [S.rawRest]; omega
  | cons b l ih =>
    intro c B h1 h2 h3
    have hb := b.toNat_lt
    have := ih (c * 64 + b.toNat - 128) (B * 65) (by omega) (by omega) (by omega)
    simp only [S.rawRest, List.length_cons, Int.pow_succ]
    rw [show B * (65 ^ l.length * 65) = B * 65 * 65 ^ l.length from by rw [Int.mul_comm (65 ^ l.length) 65, Int.mul_assoc]]
    exact this
theorem rawI_zero (n : Nat) (l : S.B) : rawI n 0 l = 0 := rfl
theorem rawI_one (n : Nat) (l : S.B) (b : UInt8) (h : l.getD 0 0 = b) (hl : 0 < l.length) : rawI n 1 l = byt b - S.less n := by
  cases l with
  | nil => simp at hl
  | cons c l => simp at h; subst h; unfold rawI; simp [S.rawRest]; rfl
theorem rawI_succ (n i : Nat) (l : S.B) (b : UInt8) (hi : 1 ≤ i) (hl : i < l.length) (h : l.getD i 0 = b) : rawI n (i + 1) l = rawI n i l * 64 + byt b - 128 := by
  cases l with
  | nil => simp at hl
  | cons c l =>
    unfold rawI
    rw [if_neg (by omega), if_neg (by omega)]
    simp only [Nat.add_sub_cancel]
    obtain ⟨j, rfl⟩ : ∃ j, i = j + 1 := ⟨i - 1, by omega⟩
    have hj : j < l.length := by simpa using hl
    have e : l.take (j + 1) = l.take (j + 1 - 1) ++ [b] := by
      rw [Nat.add_sub_cancel, List.take_succ_eq_append_getElem hj]
      congr 2
      simpa [List.getD_eq_getElem?_getD, hj] using h
    rw [e, rawRest_snoc]; rfl
theorem rawI_bd (n i : Nat) (l : S.B) (hi : i ≤ 4) : -1000000000 ≤ rawI n i l ∧ rawI n i l ≤ 1000000000 := by
  unfold rawI
  split
  · omega
  · cases l with
    | nil => simp
    | cons b t =>
      have hb := b.toNat_lt
      have hl := less_bd n
      have h := rawRest_bd (t.take (i - 1)) (b.toNat - S.less n) 256 (by omega) (by omega) (by omega)
      have hle : (t.take (i - 1)).length ≤ 3 := by rw [List.length_take]; omega
      have : (t.take (i - 1)).length = 0 ∨ (t.take (i - 1)).length = 1 ∨ (t.take (i - 1)).length = 2 ∨ (t.take (i - 1)).length = 3 := by omega
      rcases this with e | e | e | e <;> (rw [e] at h; simp at h; simp only []; omega)
theorem rawI_raw (n : Nat) (l : S.B) (hn : n ≠ 0) : rawI n n l = S.raw n l := by unfold rawI S.raw; rw [if_neg hn]; rfl
def Tried (n : Nat) (l : S.B) : Prop := ∀ m, 1 ≤ m → m < n → m ≤ l.length → S.tryN m l = false
theorem getD_drop (l : S.B) (k i : Nat) : (l.drop k).getD i 0 = l.getD (k + i) 0 := by simp [List.getD_eq_getElem?_getD]
def RuneAns (s : ByteArray) (k : Nat) (w : World) (e : Ending) (w' : World) : Prop := ∃ (code : Int) (n : Nat), e = .returned (.tuple #[.int .i64 code, .int .i64 n]) ∧ Hid (S.rune (s.data.toList.drop k) = (code, n)) ∧ Below w.heap.size w w'
set_option maxHeartbeats 4000000 in
theorem rrune_any (s : ByteArray) (k : Nat) (w : World) (hs : s.size ≤ 1000000000) (hk : k < s.size) : Calls Try.prog 16 #[.string s, .int .i64 k] w (RuneAns s k w) := by
  have d1 : decide ((k : Int) < 0) = false := by simp
  have d2 : decide (s.size ≤ k) = false := by simp; omega
  go_enter Try.func16, Try.ntmps16
  go_wp2
  go_loopw [6] (fun v wr => ∃ n : Nat, 1 ≤ n ∧ n ≤ 5 ∧ v = .int .i64 n ∧ Tried n (s.data.toList.drop k) ∧ Below w.heap.size w wr) (fun v _ => 5 - (intOf v).toNat)
  case atStart => exact ⟨1, by omega, by omega, rfl, fun m h1 h2 _ => by omega, Below.refl _ _⟩
  case round =>
    obtain ⟨n, hn1, hn2, rfl, htr, hbw⟩ := hrel
    have HTR := Lib.hid htr; clear htr
    have HBW := Lib.hid hbw; clear hbw
    have hlen : (s.data.toList.drop k).length = s.size - k := by rw [List.length_drop, size_list]
    have HL := Lib.hid hlen; clear hlen
    by_cases hn : n ≤ 4 ∧ n ≤ s.size - k
    · obtain ⟨hn3, hn4⟩ := hn
      have d3 : decide ((n : Int) ≤ (s.size : Int) - (k : Int)) = true := by simp; omega
      have d4 : decide ((n : Int) ≤ 4) = true := by simp; omega
      obtain ⟨wo, rfl⟩ : ∃ wo : World, wo = wr := ⟨_, rfl⟩
      go_wp2_with fail
      go_loop [7, 8] (fun c i => ∃ j : Nat, j ≤ n ∧ i = .int .i64 j ∧ c = .int .i64 (rawI n j (s.data.toList.drop k))) (fun _ i => n - (intOf i).toNat)
      case atStart => exact ⟨0, by omega, rfl, rfl⟩
      case round =>
        obtain ⟨j, hj, rfl, rfl⟩ := hrel
        by_cases hlt : j < n
        · have hb := getD_at s (k + j) (by omega)
          have hgd : (s.data.toList.drop k).getD j 0 = s[k + j] := by rw [getD_drop]; exact hb
          have HGD := Lib.hid hgd; clear hgd hb
          obtain ⟨hd1, hd2⟩ := rawI_bd n j (s.data.toList.drop k) (by omega)
          have hy1 := byt_lo (s[k + j])
          have hy2 := byt_hi (s[k + j])
          by_cases hj0 : j = 0
          · subst hj0
            have h1 := rawI_one n (s.data.toList.drop k) _ HGD.out (by rw [HL.out]; omega)
            have H1 := Lib.hid h1; clear h1
            have hz1 := byt_lo (s[k]'hk)
            have hz2 := byt_hi (s[k]'hk)
            have hcs : n = 1 ∨ n = 2 ∨ n = 3 ∨ n = 4 := by omega
            rcases hcs with rfl | rfl | rfl | rfl
            all_goals
              go_wp2_with fail
              go_round
              case rel => exact ⟨1, by omega, by go_num, by rw [H1.out]; simp [S.less]⟩
              case measure => simp [intOf]; try omega
          · have h1 := rawI_succ n j (s.data.toList.drop k) _ (by omega) (by rw [HL.out]; omega) HGD.out
            have H1 := Lib.hid h1; clear h1
            have hj1 : ((j : Int) == 0) = false := by simp; omega
            generalize rawI n j (s.data.toList.drop k) = c at *
            go_wp2_with fail
            go_round
            case rel => exact ⟨j + 1, by omega, by go_num, by rw [H1.out]⟩
            case measure => simp [intOf]; try omega
        · have hjn : j = n := by omega
          have hraw : rawI n j (s.data.toList.drop k) = S.raw n (s.data.toList.drop k) := by rw [hjn]; exact rawI_raw n _ (by omega)
          rw [hraw]
          clear hraw hjn
          have htk : (s.extract k (k + n)).data.toList = (s.data.toList.drop k).take n := by rw [extract_list]; congr 1; omega
          have HTK := Lib.hid htk; clear htk
          have hti := S.tryN_iff n (s.data.toList.drop k)
          have hru := S.rune_try (s.data.toList.drop k) n hn1 hn3 (by rw [HL.out]; omega)
          have HEN := Lib.hid (renc_any (S.raw n (s.data.toList.drop k)))
          generalize S.raw n (s.data.toList.drop k) = c at *
          have HTI := Lib.hid hti
          have HRU := Lib.hid hru
          clear hti hru
          go_wp2_with fail
          refine (HEN.out _).mono ?_
          rintro e w2 ⟨rfl, hb2⟩
          generalize S.encode c = en at *
          have HB2 := Lib.hid (HBW.out.trans (hb2.mono HBW.out.size)); clear hb2
          by_cases ht : S.tryN n (s.data.toList.drop k) = true
          · obtain ⟨e1, e2⟩ := HTI.out.1 ht
            have HE2 := Lib.hid e2
            have HRR := Lib.hid (HRU.out ht)
            clear ht e2
            have f1 := full_facts en e1
            obtain ⟨f2, f3⟩ := f1
            have g1 : (en == (s.extract k (k + n)).toList) = true := by rw [ByteArray.toList_eq, HTK.out, ← HE2.out]; simp
            go_wp2_with fail
            go_ret2
            exact ⟨c, n, rfl, HRR, HB2.out⟩
          · have ht' : S.tryN n (s.data.toList.drop k) = false := by simpa using ht
            have HT := Lib.hid ht'
            have htn : ¬ (en ≠ [] ∧ en = (s.data.toList.drop k).take n) := fun h => ht (HTI.out.2 h)
            have HTN := Lib.hid htn
            have htr2 : Tried (n + 1) (s.data.toList.drop k) := fun m h1 h2 h3 => by
              by_cases hm : m = n
              · subst hm; exact HT.out
              · exact HTR.out m h1 (by omega) h3
            have HT2 := Lib.hid htr2
            clear ht ht' htn htr2
            by_cases hem : en = []
            · obtain ⟨f2, f3⟩ := empty_facts en hem
              clear hem
              go_wp2_with fail
              go_roundw
              case rel => exact ⟨n + 1, by omega, by omega, by go_num, HT2.out, HB2.out⟩
              case measure => simp [intOf]; omega
            · obtain ⟨f2, f3⟩ := full_facts en hem
              have g1 : (en == (s.extract k (k + n)).toList) = false := by
                rw [ByteArray.toList_eq, HTK.out]
                have := HTN.out
                simpa [hem] using this
              clear hem
              go_wp2_with fail
              go_roundw
              case rel => exact ⟨n + 1, by omega, by omega, by go_num, HT2.out, HB2.out⟩
              case measure => simp [intOf]; omega
    · have hrn : S.rune (s.data.toList.drop k) = (-1, 0) := S.rune_not _ fun m h1 h2 h3 => HTR.out m h1 (by rw [HL.out] at h3; omega) h3
      have HRN := Lib.hid hrn; clear hrn
      by_cases hn4 : n ≤ 4
      all_goals
        go_wp2_with fail
        go_ret2
        exact ⟨-1, 0, rfl, HRN, HBW.out⟩
end Go.Proofs.Ytpfalkdkiffipaa
