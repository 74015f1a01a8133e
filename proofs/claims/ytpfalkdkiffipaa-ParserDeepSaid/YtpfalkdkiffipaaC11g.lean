/- Entities: chars.Entity. -/
import Derived.Test.YtpfalkdkiffipaaC11f
namespace Go.Proofs.Ytpfalkdkiffipaa
open Go.RowKit
set_option maxRecDepth 100000
attribute [local go_sem] byt_at byt_wrap
/-- what the library's own variable holds: a number -/
def G (w : World) : Prop := ∃ m : Int, w.cell? ⟨0, 0, none⟩ = some (.int .i64 m)
theorem G.pos {w : World} (h : G w) : 0 < w.heap.size := by
  obtain ⟨m, h⟩ := h
  rcases Nat.lt_or_ge 0 w.heap.size with h' | h'
  · exact h'
  · simp [World.cell?, Array.getElem?_eq_none h'] at h
theorem G.below {w w' : World} {B : Nat} (h : G w) (hb : Below B w w') (hB : 0 < B) : G w' := by
  obtain ⟨m, h⟩ := h; exact ⟨m, by rw [hb.cell (p := ⟨0, 0, none⟩) hB]; exact h⟩
theorem G.ext {w w' : World} (h : G w) (hb : Below w.heap.size w w') : G w' := h.below hb h.pos
theorem Below.drewN {B : Nat} {a w : World} (h : Below B a w) (n : Nat) : Below B a (w.drewN n) := ⟨h.os, h.tape, h.output, h.size, h.block⟩
theorem numberedL_10 (l : S.B) (w : World) (hs : l.length ≤ 1000000000) : Calls Try.prog 83 #[.string ⟨l.toArray⟩, .int .i64 10] w (StrSaid (S.numbered l 10) w) := by
  have := numbered_10 ⟨l.toArray⟩ w (by simpa [ByteArray.size] using hs); simpa using this
theorem numberedL_16 (l : S.B) (w : World) (hs : l.length ≤ 1000000000) : Calls Try.prog 83 #[.string ⟨l.toArray⟩, .int .i64 16] w (StrSaid (S.numbered l 16) w) := by
  have := numbered_16 ⟨l.toArray⟩ w (by simpa [ByteArray.size] using hs); simpa using this
theorem namedL (l : S.B) (w : World) : Calls Try.prog 81 #[.string ⟨l.toArray⟩] w (StrSaid (S.named l) w) := by
  have := named_any ⟨l.toArray⟩ w; simpa using this
theorem cutPrefix_hex (l : S.B) (w : World) (b : Bool) (h : Lib.hasPrefix l [35, 120] = b) : Calls Try.prog 82 #[.string ⟨l.toArray⟩, .string ⟨#[35, 120]⟩] w fun e w' => e = .returned (.tuple #[.string ⟨(Lib.trimPrefix l [35, 120]).toArray⟩, .bool b]) ∧ w = w' := by
  have := Try.strings_CutPrefix ⟨l.toArray⟩ ⟨#[35, 120]⟩ w
  subst h
  exact this.mono fun _ _ ⟨a, b⟩ => ⟨a, b.symm⟩
theorem cutPrefix_dec (l : S.B) (w : World) (b : Bool) (h : Lib.hasPrefix l [35] = b) : Calls Try.prog 82 #[.string ⟨l.toArray⟩, .string ⟨#[35]⟩] w fun e w' => e = .returned (.tuple #[.string ⟨(Lib.trimPrefix l [35]).toArray⟩, .bool b]) ∧ w = w' := by
  have := Try.strings_CutPrefix ⟨l.toArray⟩ ⟨#[35]⟩ w
  subst h
  exact this.mono fun _ _ ⟨a, b⟩ => ⟨a, b.symm⟩
theorem trim_yes (l p : S.B) (h : Lib.hasPrefix l p = true) : Lib.trimPrefix l p = l.drop p.length := by unfold Lib.trimPrefix; rw [if_pos h]
theorem entity_cut (l : S.B) (k : Nat) (a b : S.B) (c : Bool) (h : Lib.cut (l.drop (k + 1)) [59] = (a, b, c)) : S.entity (l.drop k) = if c = false then ([], 0) else if S.body a = [] then ([], 0) else (S.body a, a.length + 2) := by
  unfold S.entity; rw [List.drop_drop, h]
theorem cutL (s : ByteArray) (p : S.B) (w : World) (hs : s.size ≤ 1000000000) (hG : G w) : Calls Try.prog 53 #[.string s, .string ⟨p.toArray⟩] w fun e w' => ∃ a b c, Hid (Lib.cut s.data.toList p = (a, b, c)) ∧ a.length ≤ s.size ∧ e = .returned (.tuple #[.string ⟨a.toArray⟩, .string ⟨b.toArray⟩, .bool c]) ∧ ∃ n, w' = w.drewN n := by
  obtain ⟨m, hm⟩ := hG
  have := Try.strings_Cut s ⟨p.toArray⟩ m w (by omega) hm
  refine this.mono fun e w' ⟨h, n, hn⟩ => ⟨_, _, _, Lib.hid rfl, ?_, h, n, hn⟩
  show (Lib.cut s.data.toList p).1.length ≤ s.size
  rw [← size_list]; unfold Lib.cut; split <;> simp <;> omega
def PairSaid (x : S.B × Nat) (w : World) (e : Ending) (w' : World) : Prop := e = .returned (.tuple #[.string ⟨x.1.toArray⟩, .int .i64 x.2]) ∧ Below w.heap.size w w'
theorem pair_said {x : S.B × Nat} {l : S.B} {n : Int} {w w' : World} (h : x.1 = l) (h2 : (x.2 : Int) = n) (hb : Below w.heap.size w w') : PairSaid x w (.returned (.tuple #[.string ⟨l.toArray⟩, .int .i64 n])) w' := ⟨by rw [← h, ← h2], hb⟩
theorem empty_facts (l : S.B) (h : l = []) : List.isEmpty l = true ∧ (⟨l.toArray⟩ : ByteArray).toList.isEmpty = true := by subst h; exact ⟨rfl, by rw [ByteArray.toList_eq]; rfl⟩
theorem full_facts (l : S.B) (h : ¬ l = []) : List.isEmpty l = false ∧ (⟨l.toArray⟩ : ByteArray).toList.isEmpty = false := ⟨by simpa using h, by rw [ByteArray.toList_eq]; simpa using h⟩
theorem prefix_both (l : S.B) (h : Lib.hasPrefix l [35] = false) : Lib.hasPrefix l [35, 120] = false := by
  cases l with
  | nil => rfl
  | cons c l => unfold Lib.hasPrefix at *; simp [List.isPrefixOf] at *; intro h1; exact absurd h1 h
set_option maxHeartbeats 1000000 in
theorem entity_hex (s : ByteArray) (k : Nat) (w : World) (a b : S.B) (hs : s.size ≤ 1000000000) (hk : k < s.size) (h38 : byt s[k] = 38) (hG : G w) (hcut : Hid (Lib.cut (s.extract (k + 1) s.size).data.toList [59] = (a, b, true))) (hal : a.length ≤ 1000000000)
    (hp1 : Lib.hasPrefix a [35, 120] = true) (ht : Lib.trimPrefix a [35, 120] = a.drop 2) (hv : S.body a = S.numbered (a.drop 2) 16) : Calls Try.prog 72 #[.string s, .int .i64 k] w (PairSaid (S.entity (s.data.toList.drop k)) w) := by
  have hc : Calls Try.prog 53 #[.string (s.extract (k + 1) s.size), .string ⟨#[59]⟩] w fun e w' => e = .returned (.tuple #[.string ⟨a.toArray⟩, .string ⟨b.toArray⟩, .bool true]) ∧ ∃ n, w' = w.drewN n := by
    refine (cutL (s.extract (k + 1) s.size) [59] w (by rw [ByteArray.size_extract]; omega) hG).mono ?_
    rintro e w' ⟨a', b', c', h1, _, h2, h3⟩
    rw [hcut.out] at h1
    have := h1.out
    simp only [Prod.mk.injEq] at this
    obtain ⟨rfl, rfl, rfl⟩ := this
    exact ⟨h2, h3⟩
  have HC := Lib.hid hc; clear hc
  have HCUT := hcut.out
  rw [drop_list] at HCUT
  have HE2 := Lib.hid (entity_cut s.data.toList k a b true HCUT); clear HCUT
  have hl2 : (a.drop 2).length ≤ 1000000000 := by simp; omega
  have hl1 : a.tail.length ≤ 1000000000 := by simp; omega
  have hq := Lib.hid (trim_yes a [35])
  have HV := Lib.hid hv; clear hv
  rw [HV.out] at HE2
  by_cases hem : S.numbered (a.drop 2) 16 = []
  · have HM := Lib.hid hem
    have HF := empty_facts _ HM.out
    have e1 := HF.1
    have e2 := HF.2
    clear hem HF
    go_enter Try.func72, Try.ntmps72
    go_wp2_with fail
    refine HC.out.mono ?_
    rintro e w' ⟨rfl, n, rfl⟩
    have HW : Hid (∀ w1 : World, Below (w.drewN n).heap.size (w.drewN n) w1 → Below w.heap.size w w1) := Lib.hid (fun w1 h => (Below.drewN (Below.refl _ _) n).trans h)
    go_wp2_with fail
    refine (namedL _ _).mono ?_
    rintro e w' ⟨rfl, hb1⟩
    have HB1 := Lib.hid (HW.out _ hb1); clear hb1 HW
    go_wp2_with fail
    refine (cutPrefix_hex a _ _ hp1).mono ?_
    rintro e w' ⟨rfl, rfl⟩
    go_wp2_with fail
    refine (cutPrefix_dec a _ _ rfl).mono ?_
    rintro e w' ⟨rfl, rfl⟩
    go_wp2_with fail
    refine (numberedL_16 _ _ hl2).mono ?_; rintro e w' ⟨rfl, hb2⟩; replace HB1 := Lib.hid (HB1.out.trans (hb2.mono HB1.out.size)); clear hb2; go_wp2_with fail
    go_ret2
    exact pair_said (by rw [HE2.out, if_neg (by simp), if_pos HM.out]) (by rw [HE2.out, if_neg (by simp), if_pos HM.out]; simp) HB1.out
  · have HM := Lib.hid hem
    have HF := full_facts _ HM.out
    have e1 := HF.1
    have e2 := HF.2
    clear hem HF
    go_enter Try.func72, Try.ntmps72
    go_wp2_with fail
    refine HC.out.mono ?_
    rintro e w' ⟨rfl, n, rfl⟩
    have HW : Hid (∀ w1 : World, Below (w.drewN n).heap.size (w.drewN n) w1 → Below w.heap.size w w1) := Lib.hid (fun w1 h => (Below.drewN (Below.refl _ _) n).trans h)
    go_wp2_with fail
    refine (namedL _ _).mono ?_
    rintro e w' ⟨rfl, hb1⟩
    have HB1 := Lib.hid (HW.out _ hb1); clear hb1 HW
    go_wp2_with fail
    refine (cutPrefix_hex a _ _ hp1).mono ?_
    rintro e w' ⟨rfl, rfl⟩
    go_wp2_with fail
    refine (cutPrefix_dec a _ _ rfl).mono ?_
    rintro e w' ⟨rfl, rfl⟩
    go_wp2_with fail
    refine (numberedL_16 _ _ hl2).mono ?_; rintro e w' ⟨rfl, hb2⟩; replace HB1 := Lib.hid (HB1.out.trans (hb2.mono HB1.out.size)); clear hb2; go_wp2_with fail
    go_ret2
    exact pair_said (by rw [HE2.out, if_neg (by simp), if_neg HM.out]) (by rw [HE2.out, if_neg (by simp), if_neg HM.out]; simp) HB1.out
set_option maxHeartbeats 1000000 in
theorem entity_dec (s : ByteArray) (k : Nat) (w : World) (a b : S.B) (hs : s.size ≤ 1000000000) (hk : k < s.size) (h38 : byt s[k] = 38) (hG : G w) (hcut : Hid (Lib.cut (s.extract (k + 1) s.size).data.toList [59] = (a, b, true))) (hal : a.length ≤ 1000000000)
    (hp1 : Lib.hasPrefix a [35, 120] = false) (hp2 : Lib.hasPrefix a [35] = true) (hv : S.body a = S.numbered a.tail 10) : Calls Try.prog 72 #[.string s, .int .i64 k] w (PairSaid (S.entity (s.data.toList.drop k)) w) := by
  have hc : Calls Try.prog 53 #[.string (s.extract (k + 1) s.size), .string ⟨#[59]⟩] w fun e w' => e = .returned (.tuple #[.string ⟨a.toArray⟩, .string ⟨b.toArray⟩, .bool true]) ∧ ∃ n, w' = w.drewN n := by
    refine (cutL (s.extract (k + 1) s.size) [59] w (by rw [ByteArray.size_extract]; omega) hG).mono ?_
    rintro e w' ⟨a', b', c', h1, _, h2, h3⟩
    rw [hcut.out] at h1
    have := h1.out
    simp only [Prod.mk.injEq] at this
    obtain ⟨rfl, rfl, rfl⟩ := this
    exact ⟨h2, h3⟩
  have HC := Lib.hid hc; clear hc
  have HCUT := hcut.out
  rw [drop_list] at HCUT
  have HE2 := Lib.hid (entity_cut s.data.toList k a b true HCUT); clear HCUT
  have hl2 : (a.drop 2).length ≤ 1000000000 := by simp; omega
  have hl1 : a.tail.length ≤ 1000000000 := by simp; omega
  have hq := Lib.hid (trim_yes a [35])
  have HV := Lib.hid hv; clear hv
  rw [HV.out] at HE2
  by_cases hem : S.numbered a.tail 10 = []
  · have HM := Lib.hid hem
    have HF := empty_facts _ HM.out
    have e1 := HF.1
    have e2 := HF.2
    clear hem HF
    go_enter Try.func72, Try.ntmps72
    go_wp2_with fail
    refine HC.out.mono ?_
    rintro e w' ⟨rfl, n, rfl⟩
    have HW : Hid (∀ w1 : World, Below (w.drewN n).heap.size (w.drewN n) w1 → Below w.heap.size w w1) := Lib.hid (fun w1 h => (Below.drewN (Below.refl _ _) n).trans h)
    go_wp2_with fail
    refine (namedL _ _).mono ?_
    rintro e w' ⟨rfl, hb1⟩
    have HB1 := Lib.hid (HW.out _ hb1); clear hb1 HW
    go_wp2_with fail
    refine (cutPrefix_hex a _ _ hp1).mono ?_
    rintro e w' ⟨rfl, rfl⟩
    go_wp2_with fail
    refine (cutPrefix_dec a _ _ hp2).mono ?_
    rintro e w' ⟨rfl, rfl⟩
    go_wp2_with fail
    rw [show Lib.trimPrefix a [35] = a.tail from (hq.out hp2).trans List.drop_one]; refine (numberedL_10 _ _ hl1).mono ?_; rintro e w' ⟨rfl, hb2⟩; replace HB1 := Lib.hid (HB1.out.trans (hb2.mono HB1.out.size)); clear hb2; go_wp2_with fail
    go_ret2
    exact pair_said (by rw [HE2.out, if_neg (by simp), if_pos HM.out]) (by rw [HE2.out, if_neg (by simp), if_pos HM.out]; simp) HB1.out
  · have HM := Lib.hid hem
    have HF := full_facts _ HM.out
    have e1 := HF.1
    have e2 := HF.2
    clear hem HF
    go_enter Try.func72, Try.ntmps72
    go_wp2_with fail
    refine HC.out.mono ?_
    rintro e w' ⟨rfl, n, rfl⟩
    have HW : Hid (∀ w1 : World, Below (w.drewN n).heap.size (w.drewN n) w1 → Below w.heap.size w w1) := Lib.hid (fun w1 h => (Below.drewN (Below.refl _ _) n).trans h)
    go_wp2_with fail
    refine (namedL _ _).mono ?_
    rintro e w' ⟨rfl, hb1⟩
    have HB1 := Lib.hid (HW.out _ hb1); clear hb1 HW
    go_wp2_with fail
    refine (cutPrefix_hex a _ _ hp1).mono ?_
    rintro e w' ⟨rfl, rfl⟩
    go_wp2_with fail
    refine (cutPrefix_dec a _ _ hp2).mono ?_
    rintro e w' ⟨rfl, rfl⟩
    go_wp2_with fail
    rw [show Lib.trimPrefix a [35] = a.tail from (hq.out hp2).trans List.drop_one]; refine (numberedL_10 _ _ hl1).mono ?_; rintro e w' ⟨rfl, hb2⟩; replace HB1 := Lib.hid (HB1.out.trans (hb2.mono HB1.out.size)); clear hb2; go_wp2_with fail
    go_ret2
    exact pair_said (by rw [HE2.out, if_neg (by simp), if_neg HM.out]) (by rw [HE2.out, if_neg (by simp), if_neg HM.out]; simp) HB1.out
set_option maxHeartbeats 1000000 in
theorem entity_name (s : ByteArray) (k : Nat) (w : World) (a b : S.B) (hs : s.size ≤ 1000000000) (hk : k < s.size) (h38 : byt s[k] = 38) (hG : G w) (hcut : Hid (Lib.cut (s.extract (k + 1) s.size).data.toList [59] = (a, b, true))) (hal : a.length ≤ 1000000000)
    (hp1 : Lib.hasPrefix a [35, 120] = false) (hp2 : Lib.hasPrefix a [35] = false) (hv : S.body a = S.named a) : Calls Try.prog 72 #[.string s, .int .i64 k] w (PairSaid (S.entity (s.data.toList.drop k)) w) := by
  have hc : Calls Try.prog 53 #[.string (s.extract (k + 1) s.size), .string ⟨#[59]⟩] w fun e w' => e = .returned (.tuple #[.string ⟨a.toArray⟩, .string ⟨b.toArray⟩, .bool true]) ∧ ∃ n, w' = w.drewN n := by
    refine (cutL (s.extract (k + 1) s.size) [59] w (by rw [ByteArray.size_extract]; omega) hG).mono ?_
    rintro e w' ⟨a', b', c', h1, _, h2, h3⟩
    rw [hcut.out] at h1
    have := h1.out
    simp only [Prod.mk.injEq] at this
    obtain ⟨rfl, rfl, rfl⟩ := this
    exact ⟨h2, h3⟩
  have HC := Lib.hid hc; clear hc
  have HCUT := hcut.out
  rw [drop_list] at HCUT
  have HE2 := Lib.hid (entity_cut s.data.toList k a b true HCUT); clear HCUT
  have hl2 : (a.drop 2).length ≤ 1000000000 := by simp; omega
  have hl1 : a.tail.length ≤ 1000000000 := by simp; omega
  have hq := Lib.hid (trim_yes a [35])
  have HV := Lib.hid hv; clear hv
  rw [HV.out] at HE2
  by_cases hem : S.named a = []
  · have HM := Lib.hid hem
    have HF := empty_facts _ HM.out
    have e1 := HF.1
    have e2 := HF.2
    clear hem HF
    go_enter Try.func72, Try.ntmps72
    go_wp2_with fail
    refine HC.out.mono ?_
    rintro e w' ⟨rfl, n, rfl⟩
    have HW : Hid (∀ w1 : World, Below (w.drewN n).heap.size (w.drewN n) w1 → Below w.heap.size w w1) := Lib.hid (fun w1 h => (Below.drewN (Below.refl _ _) n).trans h)
    go_wp2_with fail
    refine (namedL _ _).mono ?_
    rintro e w' ⟨rfl, hb1⟩
    have HB1 := Lib.hid (HW.out _ hb1); clear hb1 HW
    go_wp2_with fail
    refine (cutPrefix_hex a _ _ hp1).mono ?_
    rintro e w' ⟨rfl, rfl⟩
    go_wp2_with fail
    refine (cutPrefix_dec a _ _ hp2).mono ?_
    rintro e w' ⟨rfl, rfl⟩
    go_wp2_with fail
    skip
    go_ret2
    exact pair_said (by rw [HE2.out, if_neg (by simp), if_pos HM.out]) (by rw [HE2.out, if_neg (by simp), if_pos HM.out]; simp) HB1.out
  · have HM := Lib.hid hem
    have HF := full_facts _ HM.out
    have e1 := HF.1
    have e2 := HF.2
    clear hem HF
    go_enter Try.func72, Try.ntmps72
    go_wp2_with fail
    refine HC.out.mono ?_
    rintro e w' ⟨rfl, n, rfl⟩
    have HW : Hid (∀ w1 : World, Below (w.drewN n).heap.size (w.drewN n) w1 → Below w.heap.size w w1) := Lib.hid (fun w1 h => (Below.drewN (Below.refl _ _) n).trans h)
    go_wp2_with fail
    refine (namedL _ _).mono ?_
    rintro e w' ⟨rfl, hb1⟩
    have HB1 := Lib.hid (HW.out _ hb1); clear hb1 HW
    go_wp2_with fail
    refine (cutPrefix_hex a _ _ hp1).mono ?_
    rintro e w' ⟨rfl, rfl⟩
    go_wp2_with fail
    refine (cutPrefix_dec a _ _ hp2).mono ?_
    rintro e w' ⟨rfl, rfl⟩
    go_wp2_with fail
    skip
    go_ret2
    exact pair_said (by rw [HE2.out, if_neg (by simp), if_neg HM.out]) (by rw [HE2.out, if_neg (by simp), if_neg HM.out]; simp) HB1.out
set_option maxHeartbeats 1000000 in
theorem entity_nat (s : ByteArray) (k : Nat) (w : World) (hs : s.size ≤ 1000000000) (hk : k < s.size) (h38 : byt s[k] = 38) (hG : G w) : Calls Try.prog 72 #[.string s, .int .i64 k] w (PairSaid (S.entity (s.data.toList.drop k)) w) := by
  have hsz : (Lib.cut (s.extract (k + 1) s.size).data.toList [59]).1.length ≤ 1000000000 := by
    have h1 : (s.extract (k + 1) s.size).data.toList.length ≤ 1000000000 := by rw [size_list, ByteArray.size_extract]; omega
    unfold Lib.cut; split
    · simp only [List.length_take]; omega
    · exact h1
  generalize hcut : Lib.cut (s.extract (k + 1) s.size).data.toList [59] = x at hsz
  obtain ⟨a, b, c⟩ := x
  by_cases hc : c = true
  · subst hc
    have HB := S.body.eq_def a
    by_cases h1 : Lib.hasPrefix a [35, 120] = true
    · exact entity_hex s k w a b hs hk h38 hG (Lib.hid hcut) hsz h1 (trim_yes _ _ h1) (by rw [HB, if_pos h1])
    · by_cases h2 : Lib.hasPrefix a [35] = true
      · exact entity_dec s k w a b hs hk h38 hG (Lib.hid hcut) hsz (by simpa using h1) h2 (by rw [HB, if_neg h1, if_pos h2, List.drop_one])
      · exact entity_name s k w a b hs hk h38 hG (Lib.hid hcut) hsz (by simpa using h1) (by simpa using h2) (by rw [HB, if_neg h1, if_neg h2])
  · have hc' : c = false := by simpa using hc
    subst hc'
    have hcl := cutL (s.extract (k + 1) s.size) [59] w (by rw [ByteArray.size_extract]; omega) hG
    rw [hcut] at hcl
    have HC := Lib.hid hcl; clear hcl
    rw [drop_list] at hcut
    have HE := Lib.hid (entity_cut s.data.toList k a b false hcut); clear hcut
    go_enter Try.func72, Try.ntmps72
    go_wp2_with fail
    refine HC.out.mono ?_
    rintro e w' ⟨a', b', c', hcut, hal, rfl, n, rfl⟩
    obtain ⟨rfl, rfl, rfl⟩ : a = a' ∧ b = b' ∧ false = c' := by simpa using hcut.out
    go_wp2_with fail
    go_ret2
    exact pair_said (l := []) (by rw [HE.out]; rfl) (by rw [HE.out]; rfl) (Below.drewN (Below.refl _ _) n)
theorem entity_any (s : ByteArray) (i : Int) (w : World) (hs : s.size ≤ 1000000000) (h0 : 0 ≤ i) (h1 : i < s.size) (h38 : s.data.toList.getD i.toNat 0 = 38) (hG : G w) : Calls Try.prog 72 #[.string s, .int .i64 i] w (PairSaid (S.entity (s.data.toList.drop i.toNat)) w) := by
  obtain ⟨k, rfl⟩ := Int.eq_ofNat_of_zero_le h0
  have hk : k < s.size := by omega
  exact entity_nat s k w hs hk (by have h2 : s.data.toList.getD k 0 = 38 := h38; rw [getD_at s k hk] at h2; rw [h2]; rfl) hG
end Go.Proofs.Ytpfalkdkiffipaa
