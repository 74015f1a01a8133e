/- The runes: what chars.Rune and chars.Valid compute. -/
import Derived.Test.YtpfalkdkiffipaaC11a
import Derived.Outline
import Derived.Lib.ConvBytes
namespace Go.Proofs.Ytpfalkdkiffipaa
open Go.RowKit

theorem lead_1 (w : World) : Calls Try.prog 45 #[.int .i64 1] w fun e w' => e = .returned (.int .i64 0) ∧ w = w' := lead_any 1 w (by omega)
theorem lead_2 (w : World) : Calls Try.prog 45 #[.int .i64 2] w fun e w' => e = .returned (.int .i64 192) ∧ w = w' := lead_any 2 w (by omega)
theorem lead_3 (w : World) : Calls Try.prog 45 #[.int .i64 3] w fun e w' => e = .returned (.int .i64 224) ∧ w = w' := lead_any 3 w (by omega)
theorem lead_4 (w : World) : Calls Try.prog 45 #[.int .i64 4] w fun e w' => e = .returned (.int .i64 240) ∧ w = w' := lead_any 4 w (by omega)
theorem lead_5 (w : World) : Calls Try.prog 45 #[.int .i64 5] w fun e w' => e = .returned (.int .i64 248) ∧ w = w' := lead_any 5 w (by omega)
def byt (c : UInt8) : Int := c.toNat
theorem byt_at (c : UInt8) : ((c.toNat : Nat) : Int) = byt c := rfl
theorem byt_lo (c : UInt8) : 0 ≤ byt c := by unfold byt; omega
theorem byt_hi (c : UInt8) : byt c ≤ 255 := by have := c.toNat_lt; unfold byt; omega
theorem byt_wrap (c : UInt8) : wrap64 (byt c) = byt c := by have := byt_lo c; have := byt_hi c; unfold wrap64; omega
attribute [local go_sem] byt_at byt_wrap
theorem conv_bytes (w : World) (s : ByteArray) : ∃ w1 c, (convert 9 22 (.string s)).run Try.prog w = .ok (.slice (some ⟨w.heap.size, 0, none⟩) s.size c) w1 ∧ Below w.heap.size w w1 ∧ w1.heap.size = w.heap.size + 1 ∧ ∀ j, j < s.size → w1.cell? ⟨w.heap.size, j, none⟩ = some (.int .u8 (byt (s.data.toList.getD j 0))) :=
  ⟨_, _, Lib.run_convert_string_bytes (P := Try.prog) w 9 22 5 s Try.underlying9 Try.underlying22 Try.underlying5, by
    have h1 := Lib.bytesWorld_size w 5 s
    exact ⟨rfl, rfl, rfl, by omega, fun j hj => Lib.bytesWorld_at_old w _ s j hj⟩, Lib.bytesWorld_size .., fun j hj => Lib.bytesWorld_cell _ _ _ j hj⟩
theorem mask192 (x : UInt8) : (bits BinOp.and IntKind.u8 (byt x) 192 != 128) = !(decide (128 ≤ x.toNat) && decide (x.toNat < 192)) := by
  have h : ∀ n : Fin 256, (bits BinOp.and IntKind.u8 ((n.val : Nat) : Int) 192 != 128) = !(decide (128 ≤ n.val) && decide (n.val < 192)) := by decide +kernel
  exact h ⟨x.toNat, x.toNat_lt⟩
theorem mask63 (x : UInt8) : bits BinOp.and IntKind.i64 (byt x) 63 = byt x % 64 := by
  have h : ∀ n : Fin 256, bits BinOp.and IntKind.i64 ((n.val : Nat) : Int) 63 = ((n.val : Nat) : Int) % 64 := by decide +kernel
  exact h ⟨x.toNat, x.toNat_lt⟩
theorem wraps_i64 (n : Int) (h₀ : 0 ≤ n) (h₁ : n < 2 ^ 63) : IntKind.i64.wrap n = n := by rw [IntKind.wrap_i64]; omega
theorem join64 (a b : Int) (h0 : 0 ≤ a) (h1 : a < 1000000000) (h2 : 0 ≤ b) (h3 : b < 64) : bits BinOp.or IntKind.i64 (a * 64) b = a * 64 + b := by
  refine bits_join .i64 63 (by decide) wraps_i64 6 (a * 64) b ?_ ?_ ?_ ?_ ?_ ?_ <;> first | omega | decide
def cb (k : Nat) : Int := 128 * 64 ^ k
theorem cb0 : cb 0 = 128 := rfl
theorem cb_succ (k : Nat) : cb (k + 1) = cb k * 64 := by unfold cb; rw [Int.pow_succ]; omega
theorem cb_le (k : Nat) (h : k ≤ 2) : cb k ≤ 524288 := by
  have : k = 0 ∨ k = 1 ∨ k = 2 := by omega
  rcases this with rfl | rfl | rfl <;> decide
theorem restCode_stop (x : UInt8) (l : List UInt8) (n : Int) (h : (decide (128 ≤ x.toNat) && decide (x.toNat < 192)) = false) : S.restCode (x :: l) n = -1 := by
  unfold S.restCode; rw [if_neg (by simpa using h)]
theorem restCode_go (x : UInt8) (l : List UInt8) (n : Int) (h : (decide (128 ≤ x.toNat) && decide (x.toNat < 192)) = true) : S.restCode (x :: l) n = S.restCode l (n * 64 + byt x % 64) := by
  simp at h
  rw [S.restCode, if_pos h]
  congr 1; unfold byt; omega
theorem rune_eq (c : UInt8) (l : List UInt8) (n : Nat) (hn : S.runeLen c = n) (h0 : n ≠ 0) (h1 : n ≤ l.length + 1) :
    S.rune (c :: l) = if S.point (S.restCode (l.take (n - 1)) (byt c - S.lead n)) && decide (S.sizeOf (S.restCode (l.take (n - 1)) (byt c - S.lead n)) = n) then (S.restCode (l.take (n - 1)) (byt c - S.lead n), n) else (-1, 0) := by
  rw [S.rune]; simp only [hn]; rw [if_neg h0, if_neg (by omega)]; rfl
theorem runeLen_at (c : UInt8) (n : Nat) (h : (n = 1 ∧ byt c < 128) ∨ (n = 2 ∧ 192 ≤ byt c ∧ byt c < 224) ∨ (n = 3 ∧ 224 ≤ byt c ∧ byt c < 240) ∨ (n = 4 ∧ 240 ≤ byt c ∧ byt c < 248)) : S.runeLen c = n := by
  unfold byt at h; unfold S.runeLen; (repeat' split) <;> omega

theorem cons_at (l : List UInt8) (k : Nat) (x : UInt8) (h : k < l.length) (hx : l.getD k 0 = x) : l.drop k = x :: l.drop (k + 1) := by
  rw [← hx, List.getD_eq_getElem?_getD, List.getElem?_eq_getElem h, Option.getD_some]; exact List.drop_eq_getElem_cons _
def RuneSaid (s : ByteArray) (w : World) (e : Ending) (w' : World) : Prop := e = .returned (.tuple #[.int .i64 (S.rune s.data.toList).1, .int .i64 (S.rune s.data.toList).2]) ∧ Below w.heap.size w w'
theorem rune_said {s : ByteArray} {w w' : World} {a b : Int} (h : a = (S.rune s.data.toList).1) (h2 : b = (S.rune s.data.toList).2) (hb : Below w.heap.size w w') : RuneSaid s w (.returned (.tuple #[.int .i64 a, .int .i64 b])) w' := ⟨by rw [h, h2], hb⟩
theorem bytes_cons (s : ByteArray) (h : 0 < s.size) : s.data.toList = s[0] :: s.data.toList.drop 1 := by
  have : 0 < s.data.toList.length := by simpa using h
  have h2 : s[0] = s.data.toList[0] := rfl
  rw [h2]
  exact List.drop_eq_getElem_cons (i := 0) this
theorem extract_list (s : ByteArray) (a b : Nat) : (s.extract a b).data.toList = (s.data.toList.drop a).take (b - a) := by
  simp [ByteArray.data_extract, Array.toList_extract, List.extract]

set_option maxRecDepth 100000 in
set_option maxHeartbeats 1000000 in
theorem rune_1 (s : ByteArray) (w : World) (h1 : 1 ≤ s.size) (h2 : s.size ≤ 1000000000) (h4 : byt s[0] < 128) : Calls Try.prog 27 #[.string s, .int .i64 0] w (RuneSaid s w) := by
  obtain ⟨w1, c, hrun, hb, hz, hcell⟩ := conv_bytes w ByteArray.empty
  have hne : ¬ s = ByteArray.empty := by intro h; subst h; simp at h1
  have hsz : ByteArray.empty.size = 0 := rfl
  clear hcell
  have h0 := byt_lo s[0]
  have HB : Hid (S.rune s.data.toList = if S.point (byt s[0]) && decide (S.sizeOf (byt s[0]) = 1) then (byt s[0], 1) else (-1, 0)) := Lib.hid (by
    rw [bytes_cons s (by omega), rune_eq _ _ 1 (runeLen_at _ _ (by omega)) (by omega) (by simp), show 1 - 1 = 0 from rfl, List.take_zero]
    show (if S.point (byt s[0] - 0) && decide (S.sizeOf (byt s[0] - 0) = 1) then (byt s[0] - 0, 1) else (-1, 0)) = _
    rw [Int.sub_zero])
  have hp : S.point (byt s[0]) = true := by unfold S.point; simp; omega
  have hs : S.sizeOf (byt s[0]) = 1 := by unfold S.sizeOf; rw [if_pos h4]
  have HP := Lib.hid hp
  have HS := Lib.hid hs
  go_enter Try.func27, Try.ntmps27
  go_wp2
  go_step3
  go_wp2_with (go_at_call 45; (first | (with_reducible refine (lead_5 _).mono ?_) | (with_reducible refine (lead_4 _).mono ?_) | (with_reducible refine (lead_3 _).mono ?_) | (with_reducible refine (lead_2 _).mono ?_) | (with_reducible refine (lead_1 _).mono ?_)); rintro e w' ⟨rfl, rfl⟩)
  go_step3
  go_wp2
  go_loop [4, 60] (fun c i => c = .int .i64 (byt s[0]) ∧ i = .int .i64 0) (fun _ _ => 0)
  case atStart => exact ⟨rfl, rfl⟩
  case round =>
    obtain ⟨rfl, rfl⟩ := hrel
    go_wp2_with (first | (go_at_call 46; (with_reducible refine (point_any _ _).mono ?_); rintro e w' ⟨rfl, rfl⟩) | (go_at_call 47; (with_reducible refine (size_any _ _).mono ?_); rintro e w' ⟨rfl, rfl⟩))
    go_ret2
    exact rune_said (by rw [HB.out, HP.out, HS.out]; rfl) (by rw [HB.out, HP.out, HS.out]; rfl) hb
set_option maxRecDepth 100000 in
set_option maxHeartbeats 1000000 in
theorem rune_2 (s : ByteArray) (w : World) (h1 : 2 ≤ s.size) (h2 : s.size ≤ 1000000000) (h3 : 192 ≤ byt s[0]) (h4 : byt s[0] < 224) : Calls Try.prog 27 #[.string s, .int .i64 0] w (RuneSaid s w) := by
  obtain ⟨w1, c, hrun, hb, hz, hcell⟩ := conv_bytes w (s.extract 1 2)
  have hne : ¬ s = ByteArray.empty := by intro h; subst h; simp at h1
  have hsz : (s.extract 1 2).size = 1 := by rw [ByteArray.size_extract]; omega
  have HC := Lib.hid hcell; clear hcell
  generalize hx : (s.extract 1 2).data.toList = bs at HC
  have hlen : bs.length = 1 := by rw [← hx]; exact hsz
  have HL := Lib.hid hlen; clear hlen
  have HB : Hid (S.rune s.data.toList = if S.point (S.restCode bs (byt s[0] - 192)) && decide (S.sizeOf (S.restCode bs (byt s[0] - 192)) = 2) then (S.restCode bs (byt s[0] - 192), 2) else (-1, 0)) := Lib.hid (by
    rw [extract_list] at hx
    rw [bytes_cons s (by omega), rune_eq _ _ 2 (runeLen_at _ _ (by omega)) (by omega) (by simp; omega), show 2 - 1 = 1 from rfl]
    rw [show List.take 1 (List.drop 1 s.data.toList) = bs from hx]; rfl)
  clear hx
  go_enter Try.func27, Try.ntmps27
  go_wp2
  go_step3
  go_wp2_with (go_at_call 45; (first | (with_reducible refine (lead_5 _).mono ?_) | (with_reducible refine (lead_4 _).mono ?_) | (with_reducible refine (lead_3 _).mono ?_) | (with_reducible refine (lead_2 _).mono ?_) | (with_reducible refine (lead_1 _).mono ?_)); rintro e w' ⟨rfl, rfl⟩)
  go_step3
  go_wp2
  have hpm : S.point (-1) = false := by decide
  go_loop [4, 60] (fun c i => ∃ (k : Nat) (code : Int), k ≤ 1 ∧ i = .int .i64 k ∧ c = .int .i64 code ∧ 0 ≤ code ∧ code < cb k ∧ S.restCode (bs.drop k) code = S.restCode bs (byt s[0] - 192)) (fun _ i => 1 - (intOf i).toNat)
  case atStart => exact ⟨0, _, by omega, rfl, rfl, by omega, by rw [cb0]; omega, rfl⟩
  case round =>
    obtain ⟨k, code, hk, rfl, rfl, hc0, hc1, hr⟩ := hrel
    have HR := Lib.hid hr; clear hr
    by_cases hlt : k < 1
    · have hcell := HC.out k (by rw [hsz]; exact hlt)
      generalize hxx : bs.getD k 0 = x at hcell
      have hcons : bs.drop k = x :: bs.drop (k + 1) := cons_at bs k x (by rw [HL.out]; exact hlt) hxx
      have HXX := Lib.hid hcons; clear hcons hxx
      have hle := cb_le k (by omega)
      have hsu := Lib.hid (cb_succ k)
      have hb0 := byt_lo x
      have hm := mask192 x
      by_cases hq : (decide (128 ≤ x.toNat) && decide (x.toNat < 192)) = true
      · have HQ := Lib.hid hq
        rw [hq] at hm; clear hq
        have hj := join64 code (byt x % 64) hc0 (by omega) (by omega) (by omega)
        have h63 := mask63 x
        go_wp2
        go_round
        case rel => exact ⟨k + 1, _, by omega, by go_num, rfl, by omega, by rw [hsu.out]; omega, by rw [← HR.out, HXX.out, restCode_go _ _ _ HQ.out]⟩
        case measure => simp [intOf]; omega
      · have hq' := Bool.eq_false_iff.2 hq; clear hq
        have HQ := Lib.hid hq'
        rw [hq'] at hm; clear hq'
        go_wp2_with (go_at_call 46; (with_reducible refine (point_any _ _).mono ?_); rintro e w' ⟨rfl, rfl⟩)
        go_ret2
        exact rune_said (by rw [HB.out, ← HR.out, HXX.out, restCode_stop _ _ _ HQ.out]; rfl) (by rw [HB.out, ← HR.out, HXX.out, restCode_stop _ _ _ HQ.out]; rfl) hb
    · have hkm : k = 1 := by omega
      have hall : bs.drop k = [] := by rw [hkm, ← HL.out]; simp
      have HD := Lib.hid hall; clear hall hkm
      have hR : S.restCode bs (byt s[0] - 192) = code := by rw [← HR.out, HD.out]; rfl
      have HR2 := Lib.hid hR; clear hR
      by_cases hp : S.point code = true
      · by_cases hs : S.sizeOf code = 2
        · have hs1 : (S.sizeOf code == 2) = true := by simpa using hs
          have hs2 : (S.sizeOf code != 2) = false := by simpa using hs
          have HS := Lib.hid hs; clear hs
          have HP := Lib.hid hp
          go_wp2_with (first | (go_at_call 46; (with_reducible refine (point_any _ _).mono ?_); rintro e w' ⟨rfl, rfl⟩) | (go_at_call 47; (with_reducible refine (size_any _ _).mono ?_); rintro e w' ⟨rfl, rfl⟩))
          go_ret2
          exact rune_said (by rw [HB.out, HR2.out, HP.out, HS.out]; rfl) (by rw [HB.out, HR2.out, HP.out, HS.out]; rfl) hb
        · have hs1 : (S.sizeOf code == 2) = false := by simpa using hs
          have hs2 : (S.sizeOf code != 2) = true := by simpa using hs
          have HS := Lib.hid hs; clear hs
          have HP := Lib.hid hp
          go_wp2_with (first | (go_at_call 46; (with_reducible refine (point_any _ _).mono ?_); rintro e w' ⟨rfl, rfl⟩) | (go_at_call 47; (with_reducible refine (size_any _ _).mono ?_); rintro e w' ⟨rfl, rfl⟩))
          go_ret2
          exact rune_said (by rw [HB.out, HR2.out, HP.out, if_neg (by simpa using HS.out)]) (by rw [HB.out, HR2.out, HP.out, if_neg (by simpa using HS.out)]; rfl) hb
      · have hp' := Bool.eq_false_iff.2 hp; clear hp
        have HP := Lib.hid hp'
        go_wp2_with (go_at_call 46; (with_reducible refine (point_any _ _).mono ?_); rintro e w' ⟨rfl, rfl⟩)
        go_ret2
        exact rune_said (by rw [HB.out, HR2.out, HP.out]; rfl) (by rw [HB.out, HR2.out, HP.out]; rfl) hb
set_option maxRecDepth 100000 in
set_option maxHeartbeats 1000000 in
theorem rune_3 (s : ByteArray) (w : World) (h1 : 3 ≤ s.size) (h2 : s.size ≤ 1000000000) (h3 : 224 ≤ byt s[0]) (h4 : byt s[0] < 240) : Calls Try.prog 27 #[.string s, .int .i64 0] w (RuneSaid s w) := by
  obtain ⟨w1, c, hrun, hb, hz, hcell⟩ := conv_bytes w (s.extract 1 3)
  have hne : ¬ s = ByteArray.empty := by intro h; subst h; simp at h1
  have hsz : (s.extract 1 3).size = 2 := by rw [ByteArray.size_extract]; omega
  have HC := Lib.hid hcell; clear hcell
  generalize hx : (s.extract 1 3).data.toList = bs at HC
  have hlen : bs.length = 2 := by rw [← hx]; exact hsz
  have HL := Lib.hid hlen; clear hlen
  have HB : Hid (S.rune s.data.toList = if S.point (S.restCode bs (byt s[0] - 224)) && decide (S.sizeOf (S.restCode bs (byt s[0] - 224)) = 3) then (S.restCode bs (byt s[0] - 224), 3) else (-1, 0)) := Lib.hid (by
    rw [extract_list] at hx
    rw [bytes_cons s (by omega), rune_eq _ _ 3 (runeLen_at _ _ (by omega)) (by omega) (by simp; omega), show 3 - 1 = 2 from rfl]
    rw [show List.take 2 (List.drop 1 s.data.toList) = bs from hx]; rfl)
  clear hx
  go_enter Try.func27, Try.ntmps27
  go_wp2
  go_step3
  go_wp2_with (go_at_call 45; (first | (with_reducible refine (lead_5 _).mono ?_) | (with_reducible refine (lead_4 _).mono ?_) | (with_reducible refine (lead_3 _).mono ?_) | (with_reducible refine (lead_2 _).mono ?_) | (with_reducible refine (lead_1 _).mono ?_)); rintro e w' ⟨rfl, rfl⟩)
  go_step3
  go_wp2
  have hpm : S.point (-1) = false := by decide
  go_loop [4, 60] (fun c i => ∃ (k : Nat) (code : Int), k ≤ 2 ∧ i = .int .i64 k ∧ c = .int .i64 code ∧ 0 ≤ code ∧ code < cb k ∧ S.restCode (bs.drop k) code = S.restCode bs (byt s[0] - 224)) (fun _ i => 2 - (intOf i).toNat)
  case atStart => exact ⟨0, _, by omega, rfl, rfl, by omega, by rw [cb0]; omega, rfl⟩
  case round =>
    obtain ⟨k, code, hk, rfl, rfl, hc0, hc1, hr⟩ := hrel
    have HR := Lib.hid hr; clear hr
    by_cases hlt : k < 2
    · have hcell := HC.out k (by rw [hsz]; exact hlt)
      generalize hxx : bs.getD k 0 = x at hcell
      have hcons : bs.drop k = x :: bs.drop (k + 1) := cons_at bs k x (by rw [HL.out]; exact hlt) hxx
      have HXX := Lib.hid hcons; clear hcons hxx
      have hle := cb_le k (by omega)
      have hsu := Lib.hid (cb_succ k)
      have hb0 := byt_lo x
      have hm := mask192 x
      by_cases hq : (decide (128 ≤ x.toNat) && decide (x.toNat < 192)) = true
      · have HQ := Lib.hid hq
        rw [hq] at hm; clear hq
        have hj := join64 code (byt x % 64) hc0 (by omega) (by omega) (by omega)
        have h63 := mask63 x
        go_wp2
        go_round
        case rel => exact ⟨k + 1, _, by omega, by go_num, rfl, by omega, by rw [hsu.out]; omega, by rw [← HR.out, HXX.out, restCode_go _ _ _ HQ.out]⟩
        case measure => simp [intOf]; omega
      · have hq' := Bool.eq_false_iff.2 hq; clear hq
        have HQ := Lib.hid hq'
        rw [hq'] at hm; clear hq'
        go_wp2_with (go_at_call 46; (with_reducible refine (point_any _ _).mono ?_); rintro e w' ⟨rfl, rfl⟩)
        go_ret2
        exact rune_said (by rw [HB.out, ← HR.out, HXX.out, restCode_stop _ _ _ HQ.out]; rfl) (by rw [HB.out, ← HR.out, HXX.out, restCode_stop _ _ _ HQ.out]; rfl) hb
    · have hkm : k = 2 := by omega
      have hall : bs.drop k = [] := by rw [hkm, ← HL.out]; simp
      have HD := Lib.hid hall; clear hall hkm
      have hR : S.restCode bs (byt s[0] - 224) = code := by rw [← HR.out, HD.out]; rfl
      have HR2 := Lib.hid hR; clear hR
      by_cases hp : S.point code = true
      · by_cases hs : S.sizeOf code = 3
        · have hs1 : (S.sizeOf code == 3) = true := by simpa using hs
          have hs2 : (S.sizeOf code != 3) = false := by simpa using hs
          have HS := Lib.hid hs; clear hs
          have HP := Lib.hid hp
          go_wp2_with (first | (go_at_call 46; (with_reducible refine (point_any _ _).mono ?_); rintro e w' ⟨rfl, rfl⟩) | (go_at_call 47; (with_reducible refine (size_any _ _).mono ?_); rintro e w' ⟨rfl, rfl⟩))
          go_ret2
          exact rune_said (by rw [HB.out, HR2.out, HP.out, HS.out]; rfl) (by rw [HB.out, HR2.out, HP.out, HS.out]; rfl) hb
        · have hs1 : (S.sizeOf code == 3) = false := by simpa using hs
          have hs2 : (S.sizeOf code != 3) = true := by simpa using hs
          have HS := Lib.hid hs; clear hs
          have HP := Lib.hid hp
          go_wp2_with (first | (go_at_call 46; (with_reducible refine (point_any _ _).mono ?_); rintro e w' ⟨rfl, rfl⟩) | (go_at_call 47; (with_reducible refine (size_any _ _).mono ?_); rintro e w' ⟨rfl, rfl⟩))
          go_ret2
          exact rune_said (by rw [HB.out, HR2.out, HP.out, if_neg (by simpa using HS.out)]) (by rw [HB.out, HR2.out, HP.out, if_neg (by simpa using HS.out)]; rfl) hb
      · have hp' := Bool.eq_false_iff.2 hp; clear hp
        have HP := Lib.hid hp'
        go_wp2_with (go_at_call 46; (with_reducible refine (point_any _ _).mono ?_); rintro e w' ⟨rfl, rfl⟩)
        go_ret2
        exact rune_said (by rw [HB.out, HR2.out, HP.out]; rfl) (by rw [HB.out, HR2.out, HP.out]; rfl) hb
set_option maxRecDepth 100000 in
set_option maxHeartbeats 1000000 in
theorem rune_4 (s : ByteArray) (w : World) (h1 : 4 ≤ s.size) (h2 : s.size ≤ 1000000000) (h3 : 240 ≤ byt s[0]) (h4 : byt s[0] < 248) : Calls Try.prog 27 #[.string s, .int .i64 0] w (RuneSaid s w) := by
  obtain ⟨w1, c, hrun, hb, hz, hcell⟩ := conv_bytes w (s.extract 1 4)
  have hne : ¬ s = ByteArray.empty := by intro h; subst h; simp at h1
  have hsz : (s.extract 1 4).size = 3 := by rw [ByteArray.size_extract]; omega
  have HC := Lib.hid hcell; clear hcell
  generalize hx : (s.extract 1 4).data.toList = bs at HC
  have hlen : bs.length = 3 := by rw [← hx]; exact hsz
  have HL := Lib.hid hlen; clear hlen
  have HB : Hid (S.rune s.data.toList = if S.point (S.restCode bs (byt s[0] - 240)) && decide (S.sizeOf (S.restCode bs (byt s[0] - 240)) = 4) then (S.restCode bs (byt s[0] - 240), 4) else (-1, 0)) := Lib.hid (by
    rw [extract_list] at hx
    rw [bytes_cons s (by omega), rune_eq _ _ 4 (runeLen_at _ _ (by omega)) (by omega) (by simp; omega), show 4 - 1 = 3 from rfl]
    rw [show List.take 3 (List.drop 1 s.data.toList) = bs from hx]; rfl)
  clear hx
  go_enter Try.func27, Try.ntmps27
  go_wp2
  go_step3
  go_wp2_with (go_at_call 45; (first | (with_reducible refine (lead_5 _).mono ?_) | (with_reducible refine (lead_4 _).mono ?_) | (with_reducible refine (lead_3 _).mono ?_) | (with_reducible refine (lead_2 _).mono ?_) | (with_reducible refine (lead_1 _).mono ?_)); rintro e w' ⟨rfl, rfl⟩)
  go_step3
  go_wp2
  have hpm : S.point (-1) = false := by decide
  go_loop [4, 60] (fun c i => ∃ (k : Nat) (code : Int), k ≤ 3 ∧ i = .int .i64 k ∧ c = .int .i64 code ∧ 0 ≤ code ∧ code < cb k ∧ S.restCode (bs.drop k) code = S.restCode bs (byt s[0] - 240)) (fun _ i => 3 - (intOf i).toNat)
  case atStart => exact ⟨0, _, by omega, rfl, rfl, by omega, by rw [cb0]; omega, rfl⟩
  case round =>
    obtain ⟨k, code, hk, rfl, rfl, hc0, hc1, hr⟩ := hrel
    have HR := Lib.hid hr; clear hr
    by_cases hlt : k < 3
    · have hcell := HC.out k (by rw [hsz]; exact hlt)
      generalize hxx : bs.getD k 0 = x at hcell
      have hcons : bs.drop k = x :: bs.drop (k + 1) := cons_at bs k x (by rw [HL.out]; exact hlt) hxx
      have HXX := Lib.hid hcons; clear hcons hxx
      have hle := cb_le k (by omega)
      have hsu := Lib.hid (cb_succ k)
      have hb0 := byt_lo x
      have hm := mask192 x
      by_cases hq : (decide (128 ≤ x.toNat) && decide (x.toNat < 192)) = true
      · have HQ := Lib.hid hq
        rw [hq] at hm; clear hq
        have hj := join64 code (byt x % 64) hc0 (by omega) (by omega) (by omega)
        have h63 := mask63 x
        go_wp2
        go_round
        case rel => exact ⟨k + 1, _, by omega, by go_num, rfl, by omega, by rw [hsu.out]; omega, by rw [← HR.out, HXX.out, restCode_go _ _ _ HQ.out]⟩
        case measure => simp [intOf]; omega
      · have hq' := Bool.eq_false_iff.2 hq; clear hq
        have HQ := Lib.hid hq'
        rw [hq'] at hm; clear hq'
        go_wp2_with (go_at_call 46; (with_reducible refine (point_any _ _).mono ?_); rintro e w' ⟨rfl, rfl⟩)
        go_ret2
        exact rune_said (by rw [HB.out, ← HR.out, HXX.out, restCode_stop _ _ _ HQ.out]; rfl) (by rw [HB.out, ← HR.out, HXX.out, restCode_stop _ _ _ HQ.out]; rfl) hb
    · have hkm : k = 3 := by omega
      have hall : bs.drop k = [] := by rw [hkm, ← HL.out]; simp
      have HD := Lib.hid hall; clear hall hkm
      have hR : S.restCode bs (byt s[0] - 240) = code := by rw [← HR.out, HD.out]; rfl
      have HR2 := Lib.hid hR; clear hR
      by_cases hp : S.point code = true
      · by_cases hs : S.sizeOf code = 4
        · have hs1 : (S.sizeOf code == 4) = true := by simpa using hs
          have hs2 : (S.sizeOf code != 4) = false := by simpa using hs
          have HS := Lib.hid hs; clear hs
          have HP := Lib.hid hp
          go_wp2_with (first | (go_at_call 46; (with_reducible refine (point_any _ _).mono ?_); rintro e w' ⟨rfl, rfl⟩) | (go_at_call 47; (with_reducible refine (size_any _ _).mono ?_); rintro e w' ⟨rfl, rfl⟩))
          go_ret2
          exact rune_said (by rw [HB.out, HR2.out, HP.out, HS.out]; rfl) (by rw [HB.out, HR2.out, HP.out, HS.out]; rfl) hb
        · have hs1 : (S.sizeOf code == 4) = false := by simpa using hs
          have hs2 : (S.sizeOf code != 4) = true := by simpa using hs
          have HS := Lib.hid hs; clear hs
          have HP := Lib.hid hp
          go_wp2_with (first | (go_at_call 46; (with_reducible refine (point_any _ _).mono ?_); rintro e w' ⟨rfl, rfl⟩) | (go_at_call 47; (with_reducible refine (size_any _ _).mono ?_); rintro e w' ⟨rfl, rfl⟩))
          go_ret2
          exact rune_said (by rw [HB.out, HR2.out, HP.out, if_neg (by simpa using HS.out)]) (by rw [HB.out, HR2.out, HP.out, if_neg (by simpa using HS.out)]; rfl) hb
      · have hp' := Bool.eq_false_iff.2 hp; clear hp
        have HP := Lib.hid hp'
        go_wp2_with (go_at_call 46; (with_reducible refine (point_any _ _).mono ?_); rintro e w' ⟨rfl, rfl⟩)
        go_ret2
        exact rune_said (by rw [HB.out, HR2.out, HP.out]; rfl) (by rw [HB.out, HR2.out, HP.out]; rfl) hb
theorem rune_none (c : UInt8) (l : List UInt8) (h : S.runeLen c = 0 ∨ l.length + 1 < S.runeLen c) : S.rune (c :: l) = (-1, 0) := by
  rw [S.rune]; simp only []
  rcases h with h | h
  · rw [if_pos h]
  · by_cases h0 : S.runeLen c = 0
    · rw [if_pos h0]
    · rw [if_neg h0, if_pos h]
theorem runeLen_bad (c : UInt8) (h : 248 ≤ byt c ∨ (128 ≤ byt c ∧ byt c < 192)) : S.runeLen c = 0 := by
  unfold byt at h; unfold S.runeLen; (repeat' split) <;> omega
set_option maxRecDepth 100000 in
set_option maxHeartbeats 1000000 in
theorem rune_bad (s : ByteArray) (w : World) (h1 : 1 ≤ s.size) (h2 : s.size ≤ 1000000000) (h3 : 248 ≤ byt s[0] ∨ (128 ≤ byt s[0] ∧ byt s[0] < 192)) : Calls Try.prog 27 #[.string s, .int .i64 0] w (RuneSaid s w) := by
  have hne : ¬ s = ByteArray.empty := by intro h; subst h; simp at h1
  have HB : Hid (S.rune s.data.toList = (-1, 0)) := Lib.hid (by rw [bytes_cons s (by omega)]; exact rune_none _ _ (.inl (runeLen_bad _ h3)))
  rcases h3 with h3 | ⟨h3, h4⟩
  all_goals
    go_enter Try.func27, Try.ntmps27
    go_wp2
    go_step3
    go_wp2_with (go_at_call 45; (first | (with_reducible refine (lead_5 _).mono ?_) | (with_reducible refine (lead_4 _).mono ?_) | (with_reducible refine (lead_3 _).mono ?_) | (with_reducible refine (lead_2 _).mono ?_) | (with_reducible refine (lead_1 _).mono ?_)); rintro e w' ⟨rfl, rfl⟩)
    try rw [Exit.noGoto_ret]
    go_ret2
    exact rune_said (by rw [HB.out]) (by rw [HB.out]; rfl) (Below.refl _ _)
set_option maxRecDepth 100000 in
set_option maxHeartbeats 1000000 in
theorem rune_s2 (s : ByteArray) (w : World) (h1 : 1 ≤ s.size) (h0 : s.size < 2) (h3 : 192 ≤ byt s[0]) (h4 : byt s[0] < 224) : Calls Try.prog 27 #[.string s, .int .i64 0] w (RuneSaid s w) := by
  have hne : ¬ s = ByteArray.empty := by intro h; subst h; simp at h1
  have HB : Hid (S.rune s.data.toList = (-1, 0)) := Lib.hid (by rw [bytes_cons s (by omega)]; exact rune_none _ _ (.inr (by rw [runeLen_at _ 2 (by omega)]; simp; omega)))
  go_enter Try.func27, Try.ntmps27
  go_wp2
  go_step3
  go_wp2_with (go_at_call 45; (first | (with_reducible refine (lead_5 _).mono ?_) | (with_reducible refine (lead_4 _).mono ?_) | (with_reducible refine (lead_3 _).mono ?_) | (with_reducible refine (lead_2 _).mono ?_) | (with_reducible refine (lead_1 _).mono ?_)); rintro e w' ⟨rfl, rfl⟩)
  try rw [Exit.noGoto_ret]
  go_ret2
  exact rune_said (by rw [HB.out]) (by rw [HB.out]; rfl) (Below.refl _ _)
set_option maxRecDepth 100000 in
set_option maxHeartbeats 1000000 in
theorem rune_s3 (s : ByteArray) (w : World) (h1 : 1 ≤ s.size) (h0 : s.size < 3) (h3 : 224 ≤ byt s[0]) (h4 : byt s[0] < 240) : Calls Try.prog 27 #[.string s, .int .i64 0] w (RuneSaid s w) := by
  have hne : ¬ s = ByteArray.empty := by intro h; subst h; simp at h1
  have HB : Hid (S.rune s.data.toList = (-1, 0)) := Lib.hid (by rw [bytes_cons s (by omega)]; exact rune_none _ _ (.inr (by rw [runeLen_at _ 3 (by omega)]; simp; omega)))
  go_enter Try.func27, Try.ntmps27
  go_wp2
  go_step3
  go_wp2_with (go_at_call 45; (first | (with_reducible refine (lead_5 _).mono ?_) | (with_reducible refine (lead_4 _).mono ?_) | (with_reducible refine (lead_3 _).mono ?_) | (with_reducible refine (lead_2 _).mono ?_) | (with_reducible refine (lead_1 _).mono ?_)); rintro e w' ⟨rfl, rfl⟩)
  try rw [Exit.noGoto_ret]
  go_ret2
  exact rune_said (by rw [HB.out]) (by rw [HB.out]; rfl) (Below.refl _ _)
set_option maxRecDepth 100000 in
set_option maxHeartbeats 1000000 in
theorem rune_s4 (s : ByteArray) (w : World) (h1 : 1 ≤ s.size) (h0 : s.size < 4) (h3 : 240 ≤ byt s[0]) (h4 : byt s[0] < 248) : Calls Try.prog 27 #[.string s, .int .i64 0] w (RuneSaid s w) := by
  have hne : ¬ s = ByteArray.empty := by intro h; subst h; simp at h1
  have HB : Hid (S.rune s.data.toList = (-1, 0)) := Lib.hid (by rw [bytes_cons s (by omega)]; exact rune_none _ _ (.inr (by rw [runeLen_at _ 4 (by omega)]; simp; omega)))
  go_enter Try.func27, Try.ntmps27
  go_wp2
  go_step3
  go_wp2_with (go_at_call 45; (first | (with_reducible refine (lead_5 _).mono ?_) | (with_reducible refine (lead_4 _).mono ?_) | (with_reducible refine (lead_3 _).mono ?_) | (with_reducible refine (lead_2 _).mono ?_) | (with_reducible refine (lead_1 _).mono ?_)); rintro e w' ⟨rfl, rfl⟩)
  try rw [Exit.noGoto_ret]
  go_ret2
  exact rune_said (by rw [HB.out]) (by rw [HB.out]; rfl) (Below.refl _ _)
theorem rune_any (s : ByteArray) (w : World) (h1 : 1 ≤ s.size) (h2 : s.size ≤ 1000000000) : Calls Try.prog 27 #[.string s, .int .i64 0] w (RuneSaid s w) := by
  by_cases a1 : byt s[0] < 128
  · exact rune_1 s w h1 h2 a1
  by_cases a2 : byt s[0] < 192
  · exact rune_bad s w h1 h2 (.inr ⟨by omega, a2⟩)
  by_cases a3 : byt s[0] < 224
  · by_cases b : s.size < 2
    · exact rune_s2 s w h1 b (by omega) a3
    · exact rune_2 s w (by omega) h2 (by omega) a3
  by_cases a4 : byt s[0] < 240
  · by_cases b : s.size < 3
    · exact rune_s3 s w h1 b (by omega) a4
    · exact rune_3 s w (by omega) h2 (by omega) a4
  by_cases a5 : byt s[0] < 248
  · by_cases b : s.size < 4
    · exact rune_s4 s w h1 b (by omega) a5
    · exact rune_4 s w (by omega) h2 (by omega) a5
  · exact rune_bad s w h1 h2 (.inl (by omega))
end Go.Proofs.Ytpfalkdkiffipaa
