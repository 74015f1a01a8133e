/- The lexer's steps: an attribute. -/
import Derived.Test.YtpfalkdkiffipaaL12g
namespace Go.Proofs.Ytpfalkdkiffipaa
open Go.RowKit
set_option maxRecDepth 100000
attribute [local go_sem] byt_at byt_wrap cell_lit
theorem cut_any (s q : ByteArray) (w : World) (hs : s.size ≤ 1000000000) (hG : G w) : Calls Try.prog 53 #[.string s, .string q] w fun e w' => ∃ a b c, Hid (Lib.cut s.data.toList q.data.toList = (a, b, c)) ∧ a.length ≤ s.size ∧ e = .returned (.tuple #[.string ⟨a.toArray⟩, .string ⟨b.toArray⟩, .bool c]) ∧ ∃ n, w' = w.drewN n := cutL s q.data.toList w hs hG
theorem contains_lt (s : S.B) (w : World) (x : Bool) (hs : s.length ≤ 1000000000) (hG : G w) (hx : Lib.contains s [60] = x) : Calls Try.prog 68 #[.string ⟨s.toArray⟩, .string ⟨#[60]⟩] w fun e w' => e = .returned (.bool x) ∧ w = w' := by
  obtain ⟨m, hm⟩ := hG
  subst hx
  exact (Try.strings_Contains ⟨s.toArray⟩ ⟨#[60]⟩ m w (by rw [size_mk]; omega) hm).mono fun _ _ ⟨a, b⟩ => ⟨a, b.symm⟩
theorem attr_end {b q : Nat} {doc : ByteArray} {ts : List S.Tok} {a n : S.B} {fr : Int} {x : Option (List S.Tok × Nat)} {w w' : World} (hx : x = (S.decode a).map fun v => ([⟨2, fr, q + a.length + 2, n, v⟩], q + a.length + 2))
    (h : Rd b doc (q + a.length + 2) (ts ++ [⟨2, fr, q + a.length + 2, n, ((S.decode a).getD [])⟩]) (false || (S.decode a).isNone) w') (hb : Below b w w') : StepSaid b doc ts x w (.returned (.tuple #[])) w' := by
  cases hd : S.decode a with
  | none => rw [hd] at hx h; exact step_none hx hb h
  | some v => rw [hd] at hx h; exact step_some hx hb (by simpa using h)
set_option maxHeartbeats 16000000 in
theorem attr_any (b : Nat) (doc : ByteArray) (p : Nat) (ts : List S.Tok) (w : World) (h : Rd b doc p ts false w) (hs : doc.size ≤ 1000000) (hn : ts.length ≤ 1000000) (hG : G w)
    (hp : p ≤ doc.size) : Calls Try.prog 55 #[.pointer (some ⟨b, 0, none⟩)] w (StepSaid b doc ts (S.attr doc.data.toList p) w) := by
  have H := Lib.hid h; clear h
  have hs0 := S.attr.eq_def doc.data.toList p
  unfold S.attrEq S.attrEnd S.attrFrom at hs0
  have HS := Lib.hid hs0; clear hs0
  have ho0 : S.attrOpen doc.data.toList p = S.skip doc.data.toList (S.skip doc.data.toList (S.nameEnd doc.data.toList (S.skip doc.data.toList p)) + 1) := rfl
  have HO := Lib.hid ho0; clear ho0
  have hr0 : S.attrRaw doc.data.toList p = Lib.cut (doc.data.toList.drop (S.attrOpen doc.data.toList p + 1)) ((doc.data.toList.drop (S.attrOpen doc.data.toList p)).take 1) := rfl
  have HRAW := Lib.hid hr0; clear hr0
  have hlt : b < w.heap.size := let ⟨_, h⟩ := H.out; lt_of_block h.block
  have HN1 := Lib.hid (fun w => skip_at doc p p w (by omega) rfl hp)
  obtain ⟨hb1, hb2⟩ := skip_le doc p hp
  generalize S.skip doc.data.toList p = fr at HS HO HN1 hb1 hb2
  have HN2 := Lib.hid (fun w => name_at doc fr fr w (by omega) rfl hb2)
  obtain ⟨hb3, hb4⟩ := nameEnd_le doc fr hb2
  generalize S.nameEnd doc.data.toList fr = en at HS HO HN2 hb3 hb4
  have HN3 := Lib.hid (fun w => skip_at doc en en w (by omega) rfl hb4)
  obtain ⟨hb5, hb6⟩ := skip_le doc en hb4
  generalize S.skip doc.data.toList en = eq at HS HO HN3 hb5 hb6
  obtain ⟨v, hrd⟩ := H.out
  obtain ⟨c0, c1, c2, c3⟩ := hrd.cells
  clear hrd
  go_enter Try.func55, Try.ntmps55
  go_wp2
  go_still_tail 8, (by kernel_rfl)
  go_wp2_with fail
  refine (HN1.out _).mono ?_
  rintro e w1 ⟨rfl, hw1⟩
  have HW1 : Hid (Below w.heap.size w w1) := Lib.hid (lit_trans hw1 rfl rfl rfl rfl)
  have hz1 := HW1.out.size
  obtain ⟨v1, hrd1⟩ := H.out.ext HW1.out
  obtain ⟨d0, d1, d2, d3⟩ := hrd1.cells
  clear hrd1 hw1 c0 c1 c2 c3
  go_wp2_with fail
  refine (HN2.out _).mono ?_
  rintro e w2 ⟨rfl, hw2⟩
  have HW2 := Lib.hid (HW1.out.trans (hw2.mono hz1))
  have hz2 := HW2.out.size
  obtain ⟨v2, hrd2⟩ := H.out.ext HW2.out
  obtain ⟨c0, c1, c2, c3⟩ := hrd2.cells
  clear hrd2 hw2 d0 d1 d2 d3
  go_wp2_with fail
  refine (HN3.out _).mono ?_
  rintro e w3 ⟨rfl, hw3⟩
  have HW3 := Lib.hid (HW2.out.trans (hw3.mono hz2))
  have HR3 := Lib.hid (H.out.ext HW3.out)
  have hz3 := HW3.out.size
  obtain ⟨v3, hrd3⟩ := H.out.ext HW3.out
  obtain ⟨d0, d1, d2, d3⟩ := hrd3.cells
  clear hrd3 hw3 c0 c1 c2 c3
  have hfail : ∀ W, Below w.heap.size w W → Calls Try.prog 51 #[.pointer (some ⟨b, 0, none⟩)] W fun e w' => e = .returned (.tuple #[]) ∧ Rd b doc p ts true w' ∧ Below b w w' := fun W hW =>
    (fails_any b doc p ts false _ (H.out.ext hW)).mono fun e w' ⟨h1, h2, h3⟩ => ⟨h1, h2, (hW.mono (Nat.le_of_lt hlt)).trans h3⟩
  have HF := Lib.hid hfail; clear hfail
  by_cases hf : fr = p
  · have e1 : ((fr : Int) == (p : Int)) = true := by simp; omega
    have HE := Lib.hid hf; clear hf
    go_wp2_with fail
    refine (HF.out _ HW3.out).mono ?_
    rintro e w4 ⟨rfl, hr, hb⟩
    go_wp2_with fail
    go_end0
    exact step_none (by rw [HS.out, if_pos HE.out]) hb hr
  have e1 : ((fr : Int) == (p : Int)) = false := by simp; omega
  have HE1 := Lib.hid hf; clear hf
  by_cases hf : en = fr
  · have e2 : ((en : Int) == (fr : Int)) = true := by simp; omega
    have HE := Lib.hid hf; clear hf
    go_wp2_with fail
    refine (HF.out _ HW3.out).mono ?_
    rintro e w4 ⟨rfl, hr, hb⟩
    go_wp2_with fail
    go_end0
    exact step_none (by rw [HS.out, if_neg HE1.out, if_pos HE.out]) hb hr
  have e2 : ((en : Int) == (fr : Int)) = false := by simp; omega
  have HE2 := Lib.hid hf; clear hf
  by_cases hg : Lib.hasPrefix (doc.data.toList.drop eq) [61] = false
  · have HG := Lib.hid hg; clear hg
    go_wp2_with fail
    refine (stands_eq b doc eq eq p ts false _ false HR3.out rfl hb6 HG.out).mono ?_
    rintro e w4 ⟨rfl, n, rfl⟩
    go_wp2_with fail
    refine (HF.out _ (Below.drewN HW3.out n)).mono ?_
    rintro e w4 ⟨rfl, hr, hb⟩
    go_wp2_with fail
    go_end0
    exact step_none (by rw [HS.out, if_neg HE1.out, if_neg HE2.out, if_pos HG.out]) hb hr
  have hg' : Lib.hasPrefix (doc.data.toList.drop eq) [61] = true := by simpa using hg
  have HG3 := Lib.hid hg'; have HG3n := Lib.hid hg; clear hg hg'
  have heq : eq < doc.size := by
    rcases Nat.lt_or_ge eq doc.size with h | h
    · exact h
    · have := HG3.out; rw [List.drop_eq_nil_of_le (by rw [size_list]; omega)] at this; exact absurd this (by decide)
  go_wp2_with fail
  refine (stands_eq b doc eq eq p ts false _ true HR3.out rfl hb6 HG3.out).mono ?_
  rintro e w4 ⟨rfl, n, rfl⟩
  have HN4 := Lib.hid (fun w => skip_at doc (eq + 1) (eq + 1) w (by omega) (by omega) (by omega))
  have hb7 := skip_le doc (eq + 1) (by omega)
  rw [HO.out] at HS HRAW
  generalize S.skip doc.data.toList (eq + 1) = op at HS HN4 hb7 HRAW
  obtain ⟨hb7, hb8⟩ := hb7
  go_wp2_with fail
  refine (HN4.out _).mono ?_
  rintro e w5 ⟨rfl, hw5⟩
  clear HO
  have HW5 := Lib.hid ((Below.drewN HW3.out n).trans (hw5.mono hz3))
  have HR5 := Lib.hid (H.out.ext HW5.out)
  have hz5 := HW5.out.size
  clear hw5 d0 d1 d2 d3
  by_cases hq : Lib.hasPrefix (doc.data.toList.drop op) [34] = false ∧ Lib.hasPrefix (doc.data.toList.drop op) [39] = false
  · have HQ := Lib.hid hq
    obtain ⟨q1, q2⟩ := hq
    have HQ1 := Lib.hid q1; have HQ2 := Lib.hid q2; clear q1 q2
    go_wp2_with fail
    refine (stands_dq b doc op op p ts false _ false HR5.out rfl hb8 HQ1.out).mono ?_
    rintro e w4 ⟨rfl, n2, rfl⟩
    go_wp2_with fail
    refine (stands_sq b doc op op p ts false _ false (HR5.out.ext (Below.drewN (Below.refl _ _) n2)) rfl hb8 HQ2.out).mono ?_
    rintro e w4 ⟨rfl, n3, rfl⟩
    go_wp2_with fail
    refine (HF.out _ (Below.drewN HW5.out (n2 + n3))).mono ?_
    rintro e w4 ⟨rfl, hr, hb⟩
    go_wp2_with fail
    go_end0
    exact step_none (by rw [HS.out, if_neg HE1.out, if_neg HE2.out, if_neg HG3n.out, if_pos HQ.out]) hb hr
  have HQ := Lib.hid hq
  have hop : op < doc.size := by
    rcases Nat.lt_or_ge op doc.size with h | h
    · exact h
    · rw [List.drop_eq_nil_of_le (by rw [size_list]; omega)] at hq; exact absurd hq (by decide)
  clear hq
  have hraw := HRAW.out
  have hcutw : ∀ W, G W → Calls Try.prog 53 #[.string (doc.extract (op + 1) doc.size), .string (doc.extract op (op + 1))] W fun e w' => ∃ a b c, Hid (S.attrRaw doc.data.toList p = (a, b, c)) ∧ a.length ≤ doc.size ∧ e = .returned (.tuple #[.string ⟨a.toArray⟩, .string ⟨b.toArray⟩, .bool c]) ∧ ∃ n, w' = W.drewN n := fun W hW => by
    refine (cut_any (doc.extract (op + 1) doc.size) (doc.extract op (op + 1)) W (by rw [ByteArray.size_extract]; omega) hW).mono ?_
    rintro e w' ⟨a, b', c, h1, h2, h3, h4⟩
    rw [ByteArray.size_extract] at h2
    refine ⟨a, b', c, Lib.hid ?_, by omega, h3, h4⟩
    rw [hraw, ← h1.out, drop_list, extract_list]; congr 2; omega
  clear hraw
  have hrawlen : (S.attrRaw doc.data.toList p).1.length ≤ doc.size := by
    rw [HRAW.out]; unfold Lib.cut; split
    · simp; omega
    · simp
  generalize S.attrRaw doc.data.toList p = raw at hcutw hrawlen HS
  obtain ⟨a, bb, c⟩ := raw
  have hcutw2 : ∀ W, G W → Calls Try.prog 53 #[.string (doc.extract (op + 1) doc.size), .string (doc.extract op (op + 1))] W fun e w' => e = .returned (.tuple #[.string ⟨a.toArray⟩, .string ⟨bb.toArray⟩, .bool c]) ∧ ∃ n, w' = W.drewN n := fun W hW => by
    refine (hcutw W hW).mono ?_
    rintro e w' ⟨a', b', c', h1, _, h3, h4⟩
    obtain ⟨rfl, rfl, rfl⟩ : a = a' ∧ bb = b' ∧ c = c' := by simpa using h1.out
    exact ⟨h3, h4⟩
  have HCUT := Lib.hid hcutw2
  have ha : a.length ≤ 1000000 := by have : a.length ≤ doc.size := hrawlen; omega
  clear hcutw hcutw2 hrawlen HRAW
  have g1 : (0 : Int) ≤ (op : Int) + 1 := by omega
  have g2 : (op : Int) + 1 ≤ (doc.size : Int) := by omega
  have g3 : ((op : Int) + 1).toNat = op + 1 := by omega
  have g4 : (op : Int) ≤ (op : Int) + 1 := by omega
  have g5 : IntKind.i64.wrap ((op : Int) + 1) = (op : Int) + 1 := wrap_in _ (by omega) (by omega)
  have hqq : Lib.hasPrefix (doc.data.toList.drop op) [34] = true ∨ (Lib.hasPrefix (doc.data.toList.drop op) [34] = false ∧ Lib.hasPrefix (doc.data.toList.drop op) [39] = true) := by
    have := HQ.out
    cases h1 : Lib.hasPrefix (doc.data.toList.drop op) [34] <;> cases h2 : Lib.hasPrefix (doc.data.toList.drop op) [39] <;> simp_all
  rcases hqq with hq1 | ⟨hq1, hq2⟩
  · have HQ1 := Lib.hid hq1; clear hq1
    go_wp2_with fail
    refine (stands_dq b doc op op p ts false _ true HR5.out rfl hb8 HQ1.out).mono ?_; rintro e w4 ⟨rfl, n2, rfl⟩; have HW6 := Lib.hid (Below.drewN HW5.out n2); generalize w5.drewN n2 = w6 at HW6
    obtain ⟨v6, hrd6⟩ := H.out.ext HW6.out
    obtain ⟨d0, d1, d2, d3⟩ := hrd6.cells
    have HR6 := Lib.hid hrd6; clear hrd6
    have hlt6 := Nat.lt_of_lt_of_le hlt HW6.out.size
    have HG6 := Lib.hid (hG.ext HW6.out)
    go_wp2_with fail
    go_quiet ((go_at_call 53; exact Calls.quiet_of (HCUT.out _ (HG6.out.ext (Below.drewN (Below.refl _ _) _)))))
    rename_i nq
    have HW7 := Lib.hid (Below.drewN HW6.out nq)
    have HG7 := Lib.hid (hG.ext HW7.out)
    generalize w6.drewN nq = w7 at HW7 HG7
    clear d0 d1 d2 d3
    obtain ⟨v7, hrd7⟩ := H.out.ext HW7.out
    obtain ⟨d0, d1, d2, d3⟩ := hrd7.cells
    have HR7 := Lib.hid hrd7; clear hrd7
    have hlt7 := Nat.lt_of_lt_of_le hlt HW7.out.size
    by_cases hc : c = false
    · subst hc
      go_wp2_with fail
      refine (HF.out _ (HW7.out)).mono ?_
      rintro e w4 ⟨rfl, hr, hb⟩
      go_wp2_with fail
      go_end0
      exact step_none (by rw [HS.out, if_neg HE1.out, if_neg HE2.out, if_neg HG3n.out, if_neg HQ.out, if_pos trivial]) hb hr
    have hc' : c = true := by simpa using hc
    subst hc'
    by_cases hlt60 : Lib.contains a [60] = true
    · have HLT := Lib.hid hlt60; clear hlt60
      go_wp2_with fail
      refine (contains_lt a _ true (by omega) HG7.out HLT.out).mono ?_
      rintro e w4 ⟨rfl, rfl⟩
      go_wp2_with fail
      refine (HF.out _ (HW7.out)).mono ?_
      rintro e w4 ⟨rfl, hr, hb⟩
      go_wp2_with fail
      go_end0
      exact step_none (by rw [HS.out, if_neg HE1.out, if_neg HE2.out, if_neg HG3n.out, if_neg HQ.out, if_neg (by simp), if_pos HLT.out]) hb hr
    · have HLT := Lib.hid (Bool.eq_false_iff.2 hlt60); clear hlt60
      go_wp2_with fail
      refine (contains_lt a _ false (by omega) HG7.out HLT.out).mono ?_
      rintro e w4 ⟨rfl, rfl⟩
      have HWb := Lib.hid (HW7.out.mono (Nat.le_of_lt hlt))
      go_wp2_with fail
      have k1 : (fr : Int) ≤ (en : Int) := by omega
      have k2 : (en : Int) ≤ (doc.size : Int) := by omega
      have k3 : IntKind.i64.wrap ((op : Int) + a.length) = op + a.length := wrap_in _ (by omega) (by omega)
      have k4 : IntKind.i64.wrap ((op : Int) + a.length + 2) = op + a.length + 2 := wrap_in _ (by omega) (by omega)
      have hfin : ∀ w' : World, Rd b doc (op + a.length + 2) (ts ++ [⟨2, fr, op + a.length + 2, S.part doc.data.toList fr en, (S.decode a).getD []⟩]) (false || (S.decode a).isNone) w' → Below b w7 w' → StepSaid b doc ts (S.attr doc.data.toList p) w (.returned (.tuple #[])) w' := fun w' h1 h2 =>
        attr_end (by rw [HS.out, if_neg HE1.out, if_neg HE2.out, if_neg HG3n.out, if_neg HQ.out, if_neg (by simp), if_neg (by simpa using HLT.out)]) h1 (HWb.out.trans h2)
      have HFIN := Lib.hid hfin
      clear hfin g1 g2 g3 g4 g5
      go_region_with (first
        | (go_at_call 56; refine (decode_any b doc ⟨a.toArray⟩ p ts false _ (by exact ⟨v7, HR7.out.ext ⟨rfl, rfl, rfl, Nat.le_refl _, fun _ _ => rfl⟩⟩) (by rw [size_mk]; omega) (by exact HG7.out)).mono ?_; rintro e w8 ⟨rfl, hr3, hb3⟩; obtain ⟨v8, hrd3⟩ := hr3; have d1 := hrd3.cells.1; have HR8 := Lib.hid hrd3; have HB8 := Lib.hid hb3; clear hrd3 hb3)
        | (go_at_call 52; refine (tell_any b doc _ _ p 2 _ _ ts _ _ (by exact ⟨v8, HR8.out⟩) hn).mono ?_; rintro e w9 ⟨rfl, hr4, hb4⟩; have HR9 := Lib.hid hr4; have HB9 := Lib.hid hb4; clear hr4 hb4))
      all_goals
        go_end0
        have hr9 := HR9.out
        try rw [k3] at hr9
        try rw [k4] at hr9
        rw [part_list] at hr9
        exact HFIN.out _ hr9 (lit_trans (HB8.out.trans HB9.out) rfl rfl rfl rfl)
  · have HQ1 := Lib.hid hq1; have HQ2 := Lib.hid hq2; clear hq1 hq2
    go_wp2_with fail
    refine (stands_dq b doc op op p ts false _ false HR5.out rfl hb8 HQ1.out).mono ?_; rintro e w4 ⟨rfl, n2, rfl⟩; go_wp2_with fail; refine (stands_sq b doc op op p ts false _ true (HR5.out.ext (Below.drewN (Below.refl _ _) n2)) rfl hb8 HQ2.out).mono ?_; rintro e w4 ⟨rfl, n3, rfl⟩; rw [World.drewN_drewN]; have HW6 := Lib.hid (Below.drewN HW5.out (n2 + n3)); generalize w5.drewN (n2 + n3) = w6 at HW6
    obtain ⟨v6, hrd6⟩ := H.out.ext HW6.out
    obtain ⟨d0, d1, d2, d3⟩ := hrd6.cells
    have HR6 := Lib.hid hrd6; clear hrd6
    have hlt6 := Nat.lt_of_lt_of_le hlt HW6.out.size
    have HG6 := Lib.hid (hG.ext HW6.out)
    go_wp2_with fail
    go_quiet ((go_at_call 53; exact Calls.quiet_of (HCUT.out _ (HG6.out.ext (Below.drewN (Below.refl _ _) _)))))
    rename_i nq
    have HW7 := Lib.hid (Below.drewN HW6.out nq)
    have HG7 := Lib.hid (hG.ext HW7.out)
    generalize w6.drewN nq = w7 at HW7 HG7
    clear d0 d1 d2 d3
    obtain ⟨v7, hrd7⟩ := H.out.ext HW7.out
    obtain ⟨d0, d1, d2, d3⟩ := hrd7.cells
    have HR7 := Lib.hid hrd7; clear hrd7
    have hlt7 := Nat.lt_of_lt_of_le hlt HW7.out.size
    by_cases hc : c = false
    · subst hc
      go_wp2_with fail
      refine (HF.out _ (HW7.out)).mono ?_
      rintro e w4 ⟨rfl, hr, hb⟩
      go_wp2_with fail
      go_end0
      exact step_none (by rw [HS.out, if_neg HE1.out, if_neg HE2.out, if_neg HG3n.out, if_neg HQ.out, if_pos trivial]) hb hr
    have hc' : c = true := by simpa using hc
    subst hc'
    by_cases hlt60 : Lib.contains a [60] = true
    · have HLT := Lib.hid hlt60; clear hlt60
      go_wp2_with fail
      refine (contains_lt a _ true (by omega) HG7.out HLT.out).mono ?_
      rintro e w4 ⟨rfl, rfl⟩
      go_wp2_with fail
      refine (HF.out _ (HW7.out)).mono ?_
      rintro e w4 ⟨rfl, hr, hb⟩
      go_wp2_with fail
      go_end0
      exact step_none (by rw [HS.out, if_neg HE1.out, if_neg HE2.out, if_neg HG3n.out, if_neg HQ.out, if_neg (by simp), if_pos HLT.out]) hb hr
    · have HLT := Lib.hid (Bool.eq_false_iff.2 hlt60); clear hlt60
      go_wp2_with fail
      refine (contains_lt a _ false (by omega) HG7.out HLT.out).mono ?_
      rintro e w4 ⟨rfl, rfl⟩
      have HWb := Lib.hid (HW7.out.mono (Nat.le_of_lt hlt))
      go_wp2_with fail
      have k1 : (fr : Int) ≤ (en : Int) := by omega
      have k2 : (en : Int) ≤ (doc.size : Int) := by omega
      have k3 : IntKind.i64.wrap ((op : Int) + a.length) = op + a.length := wrap_in _ (by omega) (by omega)
      have k4 : IntKind.i64.wrap ((op : Int) + a.length + 2) = op + a.length + 2 := wrap_in _ (by omega) (by omega)
      have hfin : ∀ w' : World, Rd b doc (op + a.length + 2) (ts ++ [⟨2, fr, op + a.length + 2, S.part doc.data.toList fr en, (S.decode a).getD []⟩]) (false || (S.decode a).isNone) w' → Below b w7 w' → StepSaid b doc ts (S.attr doc.data.toList p) w (.returned (.tuple #[])) w' := fun w' h1 h2 =>
        attr_end (by rw [HS.out, if_neg HE1.out, if_neg HE2.out, if_neg HG3n.out, if_neg HQ.out, if_neg (by simp), if_neg (by simpa using HLT.out)]) h1 (HWb.out.trans h2)
      have HFIN := Lib.hid hfin
      clear hfin g1 g2 g3 g4 g5
      go_region_with (first
        | (go_at_call 56; refine (decode_any b doc ⟨a.toArray⟩ p ts false _ (by exact ⟨v7, HR7.out.ext ⟨rfl, rfl, rfl, Nat.le_refl _, fun _ _ => rfl⟩⟩) (by rw [size_mk]; omega) (by exact HG7.out)).mono ?_; rintro e w8 ⟨rfl, hr3, hb3⟩; obtain ⟨v8, hrd3⟩ := hr3; have d1 := hrd3.cells.1; have HR8 := Lib.hid hrd3; have HB8 := Lib.hid hb3; clear hrd3 hb3)
        | (go_at_call 52; refine (tell_any b doc _ _ p 2 _ _ ts _ _ (by exact ⟨v8, HR8.out⟩) hn).mono ?_; rintro e w9 ⟨rfl, hr4, hb4⟩; have HR9 := Lib.hid hr4; have HB9 := Lib.hid hb4; clear hr4 hb4))
      all_goals
        go_end0
        have hr9 := HR9.out
        try rw [k3] at hr9
        try rw [k4] at hr9
        rw [part_list] at hr9
        exact HFIN.out _ hr9 (lit_trans (HB8.out.trans HB9.out) rfl rfl rfl rfl)
end Go.Proofs.Ytpfalkdkiffipaa
