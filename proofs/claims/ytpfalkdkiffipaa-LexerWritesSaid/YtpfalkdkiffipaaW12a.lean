/- The law LexerWrites: what its helpers compute. -/
import Derived.Test.YtpfalkdkiffipaaL12k
import Derived.Test.YtpfalkdkiffipaaR11d
namespace Go.Proofs.Ytpfalkdkiffipaa
open Go.RowKit
set_option maxRecDepth 100000
attribute [local go_sem] byt_at byt_wrap
theorem own_cells {w : World} {base E size n : Nat} {v : Value} {xs : List Value} (h : w.ownsRow base E size v n xs) (hn : n ≠ 0) : ∃ g cap, v = .slice (some ⟨g, 0, none⟩) n cap ∧ base ≤ g ∧ g < w.heap.size ∧ ∀ j u, xs[j]? = some u → w.cell? ⟨g, j, none⟩ = some u := by
  obtain ⟨h1, h2⟩ := h
  rcases h2 with ⟨_, h2⟩ | ⟨g, cap, cur, rfl, hg, hb, hc, hm, hz, ht⟩
  · exact absurd h2 hn
  · refine ⟨g, cap, rfl, hg, lt_of_block hb, fun j u hj => ?_⟩
    rw [block_cell hb, ← hj, ← ht]
    have hlt : j < n * size := by
      rw [← h1]; exact (List.getElem?_eq_some_iff.1 hj).1
    rw [List.getElem?_take_of_lt hlt]; simp
theorem lex_ex1 : S.lex [60, 97, 32, 98, 61, 39, 49, 39, 62, 120, 38, 97, 109, 112, 59, 121, 60, 47, 97, 62] = .ok [⟨1, 0, 2, [97], []⟩, ⟨2, 3, 8, [98], [49]⟩, ⟨3, 8, 9, [], []⟩, ⟨6, 9, 16, [], [120, 38, 121]⟩, ⟨5, 16, 20, [97], []⟩] := by kernel_rfl
theorem lex_ex2 : S.lex [60, 97, 32, 98, 62] = .error 15 := by kernel_rfl
set_option maxHeartbeats 2000000 in
theorem awake12 (w : World) (hG : G w) : Calls Try.prog 6 #[] w fun e w' => e = .returned (.bool true) ∧ Below w.heap.size w w' := by
  have H1 := Lib.hid (fun w => lex_any ⟨#[60, 97, 32, 98, 61, 39, 49, 39, 62, 120, 38, 97, 109, 112, 59, 121, 60, 47, 97, 62]⟩ w)
  have H2 := Lib.hid (fun w => lex_any ⟨#[60, 97, 32, 98, 62]⟩ w)
  go_enter Try.func6, Try.ntmps6
  go_wp2_with fail
  refine (H1.out _ hG).mono ?_
  rintro e w1 ⟨hb1, hm⟩
  rw [show S.lex (⟨#[60, 97, 32, 98, 61, 39, 49, 39, 62, 120, 38, 97, 109, 112, 59, 121, 60, 47, 97, 62]⟩ : ByteArray).data.toList = _ from lex_ex1] at hm
  obtain ⟨v, rfl, hown⟩ := hm
  have HB1 := Lib.hid hb1
  have HG1 := Lib.hid (hG.ext hb1)
  have HO := Lib.hid hown
  have hz1 := hb1.size
  clear hb1 hown
  go_wp2_with fail
  refine (H2.out _ HG1.out).mono ?_
  rintro e w2 ⟨hb2, hm⟩
  rw [show S.lex (⟨#[60, 97, 32, 98, 62]⟩ : ByteArray).data.toList = _ from lex_ex2] at hm
  have he : e = _ := hm
  subst he
  clear hm
  have hown2 := owns_keep HO.out (fun g _ hg => hb2.block g hg)
  have HB2 := Lib.hid (HB1.out.trans (hb2.mono hz1))
  clear hb2
  obtain ⟨g, cap, rfl, _, _, hc⟩ := own_cells hown2 (by decide)
  have c0 := hc 0 _ rfl
  have c1 := hc 8 _ rfl
  have c2 := hc 9 _ rfl
  have c3 := hc 10 _ rfl
  have c4 := hc 19 _ rfl
  have c5 := hc 20 _ rfl
  have c6 := hc 23 _ rfl
  clear hc hown2
  go_wp2
  go_ret
  exact ⟨rfl, HB2.out⟩
set_option maxHeartbeats 400000 in
theorem short12 (s : ByteArray) (n : Int) (w : World) (h0 : 0 ≤ n) : Calls Try.prog 7 #[.string s, .int .i64 n] w fun e w' => e = .returned (.string (s.extract 0 n.toNat)) ∧ w = w' := by
  by_cases h : n < s.size
  · go_enter Try.func7, Try.ntmps7
    go_wp2
    go_ret
    exact ⟨rfl, rfl⟩
  · have he : s.extract 0 n.toNat = s := by apply ByteArray.ext; apply Array.ext'; rw [take_list]; exact List.take_of_length_le (by rw [size_list]; omega)
    have HE := Lib.hid he; clear he
    go_enter Try.func7, Try.ntmps7
    go_wp2
    go_ret
    exact ⟨by rw [HE.out]; rfl, rfl⟩
theorem any_take_succ (s : ByteArray) (k : Nat) (h : k < s.size) (c : UInt8) : (s.data.toList.take (k + 1)).contains c = ((s.data.toList.take k).contains c || (s[k] == c)) := by
  rw [take_snoc s k h, Bool.eq_iff_iff]; simp; rw [show (c = s[k] ↔ s[k] = c) from ⟨Eq.symm, Eq.symm⟩]
def hasB (s : ByteArray) (c : UInt8) : Bool := s.data.toList.contains c
set_option maxHeartbeats 400000 in
theorem has12 (s : ByteArray) (c : UInt8) (w : World) (hs : s.size ≤ 1000000000) : Calls Try.prog 9 #[.string s, .int .u8 (byt c)] w fun e w' => e = .returned (.bool (hasB s c)) ∧ w = w' := by
  go_enter Try.func9, Try.ntmps9
  go_wp2
  go_loop [5] (fun v => ∃ k : Nat, v = .int .i64 k ∧ k ≤ s.size ∧ (s.data.toList.take k).contains c = false) (fun v => s.size - (intOf v).toNat)
  case atStart => exact ⟨0, rfl, by omega, by simp⟩
  case round =>
    obtain ⟨k, rfl, hk, hc⟩ := hrel
    have HC := Lib.hid hc; clear hc
    by_cases h0 : k < s.size
    · have HS := Lib.hid (any_take_succ s k h0 c)
      by_cases he : s[k] = c
      · have hb : (byt s[k] == byt c) = true := by rw [he]; simp
        have hin : s.data.toList.contains c = true := by
          rw [List.contains_iff_mem, ← he]
          exact List.getElem_mem (l := s.data.toList) (by simpa using h0)
        have HIN := Lib.hid hin; clear hin he
        go_wp2
        go_ret
        exact ⟨ret_bool (by unfold hasB; exact HIN.out.symm), rfl⟩
      · have hb : (byt s[k] == byt c) = false := by
          rw [beq_eq_false_iff_ne]; intro h; apply he; unfold byt at h; exact UInt8.toNat_inj.1 (by omega)
        have HNE := Lib.hid he; clear he
        go_wp2
        go_round
        case rel => exact ⟨k + 1, by go_num, by omega, by rw [HS.out, HC.out]; simpa using HNE.out⟩
        case measure => simp [intOf]; omega
    · have hks : k = s.size := by omega
      have hall : s.data.toList.take k = s.data.toList := by rw [hks]; exact List.take_of_length_le (by rw [size_list]; omega)
      rw [hall] at HC
      clear hall hks
      go_wp2
      go_ret
      exact ⟨ret_bool (by unfold hasB; exact HC.out.symm), rfl⟩
end Go.Proofs.Ytpfalkdkiffipaa
