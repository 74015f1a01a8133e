/- The lexer's steps: a closing tag, an attribute. -/
import Derived.Test.YtpfalkdkiffipaaL12f
namespace Go.Proofs.Ytpfalkdkiffipaa
open Go.RowKit
set_option maxRecDepth 100000
attribute [local go_sem] byt_at byt_wrap cell_lit
theorem nameI_nat (s : ByteArray) (k : Nat) : nameI s k = (S.nameEnd s.data.toList k : Nat) := by unfold nameI S.nameEnd; simp
theorem skipI_nat (s : ByteArray) (k : Nat) : skipI s k = (S.skip s.data.toList k : Nat) := by unfold skipI S.skip; simp
theorem nameEnd_le (s : ByteArray) (k : Nat) (h : k ≤ s.size) : k ≤ S.nameEnd s.data.toList k ∧ S.nameEnd s.data.toList k ≤ s.size := by
  have h1 := nameI_lo s k
  have h2 := nameI_hi s k (by omega) (by omega)
  rw [nameI_nat] at h1 h2; omega
theorem skip_le (s : ByteArray) (k : Nat) (h : k ≤ s.size) : k ≤ S.skip s.data.toList k ∧ S.skip s.data.toList k ≤ s.size := by
  have h1 := skipI_lo s k
  have h2 := skipI_hi s k (by omega) (by omega)
  rw [skipI_nat] at h1 h2; omega
theorem name_at (s : ByteArray) (k : Nat) (i : Int) (w : World) (hs : s.size ≤ 1000000000) (hi : i = k) (hk : k ≤ s.size) : Calls Try.prog 54 #[.string s, .int .i64 i] w fun e w' => e = .returned (.int .i64 (S.nameEnd s.data.toList k : Nat)) ∧ Below w.heap.size w w' := by
  subst hi; rw [← nameI_nat]; exact name_any s k w hs (by omega) (by omega)
theorem skip_at (s : ByteArray) (k : Nat) (i : Int) (w : World) (hs : s.size ≤ 1000000000) (hi : i = k) (hk : k ≤ s.size) : Calls Try.prog 38 #[.string s, .int .i64 i] w fun e w' => e = .returned (.int .i64 (S.skip s.data.toList k : Nat)) ∧ Below w.heap.size w w' := by
  subst hi; rw [← skipI_nat]; exact skip_any s k w hs (by omega) (by omega)
theorem stands_gt (b : Nat) (doc : ByteArray) (k : Nat) (i at_ : Int) (ts : List S.Tok) (wr : Bool) (w : World) (x : Bool) (h : Rd b doc at_ ts wr w) (hi : i = k) (hk : k ≤ doc.size) (hx : Lib.hasPrefix (doc.data.toList.drop k) [62] = x) :
    Calls Try.prog 30 #[.pointer (some ⟨b, 0, none⟩), .int .i64 i, .string ⟨#[62]⟩] w fun e w' => e = .returned (.bool x) ∧ ∃ n, w' = w.drewN n := by
  subst hi; subst hx; exact stands_any b doc ⟨#[62]⟩ k at_ ts wr w h (by omega) (by omega)
theorem stands_sgt (b : Nat) (doc : ByteArray) (k : Nat) (i at_ : Int) (ts : List S.Tok) (wr : Bool) (w : World) (x : Bool) (h : Rd b doc at_ ts wr w) (hi : i = k) (hk : k ≤ doc.size) (hx : Lib.hasPrefix (doc.data.toList.drop k) [47, 62] = x) :
    Calls Try.prog 30 #[.pointer (some ⟨b, 0, none⟩), .int .i64 i, .string ⟨#[47, 62]⟩] w fun e w' => e = .returned (.bool x) ∧ ∃ n, w' = w.drewN n := by
  subst hi; subst hx; exact stands_any b doc ⟨#[47, 62]⟩ k at_ ts wr w h (by omega) (by omega)
theorem stands_eq (b : Nat) (doc : ByteArray) (k : Nat) (i at_ : Int) (ts : List S.Tok) (wr : Bool) (w : World) (x : Bool) (h : Rd b doc at_ ts wr w) (hi : i = k) (hk : k ≤ doc.size) (hx : Lib.hasPrefix (doc.data.toList.drop k) [61] = x) :
    Calls Try.prog 30 #[.pointer (some ⟨b, 0, none⟩), .int .i64 i, .string ⟨#[61]⟩] w fun e w' => e = .returned (.bool x) ∧ ∃ n, w' = w.drewN n := by
  subst hi; subst hx; exact stands_any b doc ⟨#[61]⟩ k at_ ts wr w h (by omega) (by omega)
theorem stands_dq (b : Nat) (doc : ByteArray) (k : Nat) (i at_ : Int) (ts : List S.Tok) (wr : Bool) (w : World) (x : Bool) (h : Rd b doc at_ ts wr w) (hi : i = k) (hk : k ≤ doc.size) (hx : Lib.hasPrefix (doc.data.toList.drop k) [34] = x) :
    Calls Try.prog 30 #[.pointer (some ⟨b, 0, none⟩), .int .i64 i, .string ⟨#[34]⟩] w fun e w' => e = .returned (.bool x) ∧ ∃ n, w' = w.drewN n := by
  subst hi; subst hx; exact stands_any b doc ⟨#[34]⟩ k at_ ts wr w h (by omega) (by omega)
theorem stands_sq (b : Nat) (doc : ByteArray) (k : Nat) (i at_ : Int) (ts : List S.Tok) (wr : Bool) (w : World) (x : Bool) (h : Rd b doc at_ ts wr w) (hi : i = k) (hk : k ≤ doc.size) (hx : Lib.hasPrefix (doc.data.toList.drop k) [39] = x) :
    Calls Try.prog 30 #[.pointer (some ⟨b, 0, none⟩), .int .i64 i, .string ⟨#[39]⟩] w fun e w' => e = .returned (.bool x) ∧ ∃ n, w' = w.drewN n := by
  subst hi; subst hx; exact stands_any b doc ⟨#[39]⟩ k at_ ts wr w h (by omega) (by omega)
theorem stands_lt (b : Nat) (doc : ByteArray) (k : Nat) (i at_ : Int) (ts : List S.Tok) (wr : Bool) (w : World) (x : Bool) (h : Rd b doc at_ ts wr w) (hi : i = k) (hk : k ≤ doc.size) (hx : Lib.hasPrefix (doc.data.toList.drop k) [60] = x) :
    Calls Try.prog 30 #[.pointer (some ⟨b, 0, none⟩), .int .i64 i, .string ⟨#[60]⟩] w fun e w' => e = .returned (.bool x) ∧ ∃ n, w' = w.drewN n := by
  subst hi; subst hx; exact stands_any b doc ⟨#[60]⟩ k at_ ts wr w h (by omega) (by omega)
theorem stands_lts (b : Nat) (doc : ByteArray) (k : Nat) (i at_ : Int) (ts : List S.Tok) (wr : Bool) (w : World) (x : Bool) (h : Rd b doc at_ ts wr w) (hi : i = k) (hk : k ≤ doc.size) (hx : Lib.hasPrefix (doc.data.toList.drop k) [60, 47] = x) :
    Calls Try.prog 30 #[.pointer (some ⟨b, 0, none⟩), .int .i64 i, .string ⟨#[60, 47]⟩] w fun e w' => e = .returned (.bool x) ∧ ∃ n, w' = w.drewN n := by
  subst hi; subst hx; exact stands_any b doc ⟨#[60, 47]⟩ k at_ ts wr w h (by omega) (by omega)
theorem stands_com (b : Nat) (doc : ByteArray) (k : Nat) (i at_ : Int) (ts : List S.Tok) (wr : Bool) (w : World) (x : Bool) (h : Rd b doc at_ ts wr w) (hi : i = k) (hk : k ≤ doc.size) (hx : Lib.hasPrefix (doc.data.toList.drop k) [60, 33, 45, 45] = x) :
    Calls Try.prog 30 #[.pointer (some ⟨b, 0, none⟩), .int .i64 i, .string ⟨#[60, 33, 45, 45]⟩] w fun e w' => e = .returned (.bool x) ∧ ∃ n, w' = w.drewN n := by
  subst hi; subst hx; exact stands_any b doc ⟨#[60, 33, 45, 45]⟩ k at_ ts wr w h (by omega) (by omega)
theorem stands_cd (b : Nat) (doc : ByteArray) (k : Nat) (i at_ : Int) (ts : List S.Tok) (wr : Bool) (w : World) (x : Bool) (h : Rd b doc at_ ts wr w) (hi : i = k) (hk : k ≤ doc.size) (hx : Lib.hasPrefix (doc.data.toList.drop k) [60, 33, 91, 67, 68, 65, 84, 65, 91] = x) :
    Calls Try.prog 30 #[.pointer (some ⟨b, 0, none⟩), .int .i64 i, .string ⟨#[60, 33, 91, 67, 68, 65, 84, 65, 91]⟩] w fun e w' => e = .returned (.bool x) ∧ ∃ n, w' = w.drewN n := by
  subst hi; subst hx; exact stands_any b doc ⟨#[60, 33, 91, 67, 68, 65, 84, 65, 91]⟩ k at_ ts wr w h (by omega) (by omega)
theorem part_list (s : ByteArray) (i j : Nat) : (s.extract i j).data.toList = S.part s.data.toList i j := extract_list s i j
set_option maxHeartbeats 2000000 in
theorem closing_any (b : Nat) (doc : ByteArray) (p : Nat) (ts : List S.Tok) (w : World) (h : Rd b doc p ts false w) (hs : doc.size ≤ 1000000) (hn : ts.length ≤ 1000000)
    (hp : p + 2 ≤ doc.size) : Calls Try.prog 33 #[.pointer (some ⟨b, 0, none⟩)] w (StepSaid b doc ts (S.closing doc.data.toList p) w) := by
  have H := Lib.hid h; clear h
  have HS := Lib.hid (S.closing.eq_def doc.data.toList p)
  have hlt : b < w.heap.size := let ⟨_, h⟩ := H.out; lt_of_block h.block
  have HN := Lib.hid (fun w => name_at doc (p + 2) (p + 2) w (by omega) (by omega) hp)
  have hb1 := nameEnd_le doc (p + 2) hp
  generalize S.nameEnd doc.data.toList (p + 2) = e1 at HS HN hb1
  obtain ⟨hb1, hb2⟩ := hb1
  have HK := Lib.hid (fun w => skip_at doc e1 e1 w (by omega) rfl hb2)
  have hb3 := skip_le doc e1 hb2
  generalize S.skip doc.data.toList e1 = t1 at HS HK hb3
  obtain ⟨hb3, hb4⟩ := hb3
  obtain ⟨v, hrd⟩ := H.out
  obtain ⟨c0, c1, c2, c3⟩ := hrd.cells
  clear hrd
  go_enter Try.func33, Try.ntmps33
  go_wp2_with fail
  refine (HN.out _).mono ?_
  rintro e w1 ⟨rfl, hw1⟩
  have HW1 := Lib.hid hw1
  have hz1 := hw1.size
  obtain ⟨v1, hrd1⟩ := H.out.ext hw1
  obtain ⟨d0, d1, d2, d3⟩ := hrd1.cells
  clear hrd1 hw1
  go_wp2_with fail
  refine (HK.out _).mono ?_
  rintro e w2 ⟨rfl, hw2⟩
  have HW2 := Lib.hid (HW1.out.trans (hw2.mono hz1))
  have hz2 := hw2.size
  obtain ⟨v2, hrd2⟩ := H.out.ext HW2.out
  obtain ⟨f0, f1, f2, f3⟩ := hrd2.cells
  clear hrd2 hw2
  have HR2 := Lib.hid (H.out.ext HW2.out)
  by_cases he : e1 = p + 2
  · have he1 : ((e1 : Int) == (p : Int) + 2) = true := by simp; omega
    have HE := Lib.hid he; clear he
    go_wp2_with fail
    refine (fails_any b doc p ts false _ HR2.out).mono ?_
    rintro e w3 ⟨rfl, hr, hb⟩
    go_wp2_with fail
    go_end0
    exact step_none (by rw [HS.out, if_pos HE.out]) ((HW2.out.mono (Nat.le_of_lt hlt)).trans hb) hr
  · have he1 : ((e1 : Int) == (p : Int) + 2) = false := by simp; omega
    have HE := Lib.hid he; clear he
    by_cases hg : Lib.hasPrefix (doc.data.toList.drop t1) [62] = true
    · have HG := Lib.hid hg
      go_wp2_with fail
      refine (stands_gt b doc t1 t1 p ts false _ true HR2.out rfl hb4 HG.out).mono ?_
      rintro e w3 ⟨rfl, n, rfl⟩
      go_wp2_with fail
      have g1 : (0 : Int) ≤ (p : Int) + 2 := by omega
      have g2 : (p : Int) + 2 ≤ (e1 : Int) := by omega
      have g3 : ((p : Int) + 2).toNat = p + 2 := by omega
      go_still_tail 14, (by kernel_rfl)
      go_wp2_with fail
      refine (tell_any b doc _ _ p 5 _ _ ts false _ (by exact HR2.out.ext ⟨rfl, rfl, rfl, Nat.le_refl _, fun _ _ => rfl⟩) hn).mono ?_
      rintro e w4 ⟨rfl, hr, hb⟩
      go_wp2_with fail
      go_end0
      rw [part_list] at hr
      refine step_some (l := [⟨5, p, t1 + 1, S.part doc.data.toList (p + 2) e1, []⟩]) (p := t1 + 1) ?_ ((HW2.out.mono (Nat.le_of_lt hlt)).trans (lit_trans hb rfl rfl rfl rfl)) ?_
      · rw [HS.out, if_neg HE.out, HG.out]; rfl
      · exact hr
    · have hg' := Bool.eq_false_iff.2 hg; clear hg
      have HG := Lib.hid hg'
      go_wp2_with fail
      refine (stands_gt b doc t1 t1 p ts false _ false HR2.out rfl hb4 HG.out).mono ?_
      rintro e w3 ⟨rfl, n, rfl⟩
      go_wp2_with fail
      refine (fails_any b doc p ts false _ (HR2.out.ext (Below.drewN (Below.refl _ _) n))).mono ?_
      rintro e w3 ⟨rfl, hr, hb⟩
      go_wp2_with fail
      go_end0
      exact step_none (by rw [HS.out, if_neg HE.out, HG.out]; rfl) (((Below.drewN (HW2.out) n).mono (Nat.le_of_lt hlt)).trans hb) hr
end Go.Proofs.Ytpfalkdkiffipaa
