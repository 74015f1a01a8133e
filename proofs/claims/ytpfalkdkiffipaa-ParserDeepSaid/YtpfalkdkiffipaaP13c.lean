/- The parser's builder in memory: flush, begin. -/
import Derived.Test.YtpfalkdkiffipaaP13b
namespace Go.Proofs.Ytpfalkdkiffipaa
open Go.RowKit
set_option maxRecDepth 100000
attribute [local go_sem] byt_at byt_wrap cell_lit
theorem BdAt.put_text {b : Nat} {s : S.St} {vn vm vo : Value} {w : World} (h : BdAt b s vn vm vo w) (t : S.B) : BdAt b { s with text := t } vn vm vo (w.setCell ⟨b, 3, none⟩ (.string ⟨t.toArray⟩)) :=
  ⟨block_set h.block 3 _, row_set h.nodes, row_set h.names, row_set h.opn, h.nm, h.no, h.mo⟩
theorem BdAt.put_deep {b : Nat} {s : S.St} {vn vm vo : Value} {w : World} (h : BdAt b s vn vm vo w) (t : Bool) : BdAt b { s with deep := t } vn vm vo (w.setCell ⟨b, 4, none⟩ (.bool t)) :=
  ⟨block_set h.block 4 _, row_set h.nodes, row_set h.names, row_set h.opn, h.nm, h.no, h.mo⟩
theorem BdAt.put_wrong {b : Nat} {s : S.St} {vn vm vo : Value} {w : World} (h : BdAt b s vn vm vo w) (t : Bool) : BdAt b { s with wrong := t } vn vm vo (w.setCell ⟨b, 5, none⟩ (.bool t)) :=
  ⟨block_set h.block 5 _, row_set h.nodes, row_set h.names, row_set h.opn, h.nm, h.no, h.mo⟩
theorem Bd.ext {b : Nat} {s : S.St} {w w' : World} (h : Bd b s w) (hb : Below w.heap.size w w') : Bd b s w' := let ⟨_, _, _, h⟩ := h; ⟨_, _, _, h.ext hb⟩
theorem Bd.lt {b : Nat} {s : S.St} {w : World} (h : Bd b s w) : b < w.heap.size := let ⟨_, _, _, h⟩ := h; lt_of_block h.block
theorem set_below (b i : Nat) (v : Value) (w : World) : Below b w (w.setCell ⟨b, i, none⟩ v) := (Below.refl b w).setCell (p := ⟨b, i, none⟩) (Nat.le_refl _) _
/-- what a step of the builder leaves -/
def BdSaid (b : Nat) (s : S.St) (w : World) (e : Ending) (w' : World) : Prop := e = .returned (.tuple #[]) ∧ Bd b s w' ∧ Below b w w'
set_option maxHeartbeats 2000000 in
theorem flush_none (b : Nat) (s : S.St) (w : World) (h : Bd b s w) (ht : s.text = []) : Calls Try.prog 24 #[.pointer (some ⟨b, 0, none⟩)] w (BdSaid b s.flush w) := by
  have HF : Hid (s.flush = { s with text := [] }) := Lib.hid (by unfold S.St.flush; rw [if_pos ht])
  obtain ⟨vn, vm, vo, h⟩ := h
  have HN := Lib.hid (h.put_text [])
  obtain ⟨c0, c1, c2, c3, c4, c5⟩ := h.cells
  have f3 := block_free h.block 3
  rw [ht] at c3
  clear c0 c1 c2 c4 c5 h
  go_enter Try.func24, Try.ntmps24
  go_wp2
  go_end0
  exact ⟨rfl, by rw [HF.out]; exact ⟨_, _, _, HN.out⟩, set_below _ _ _ _⟩
set_option maxHeartbeats 4000000 in
theorem flush_some (b : Nat) (s : S.St) (w : World) (h : Bd b s w) (ht : s.text ≠ []) (hs : s.text.length ≤ 1000000) (ho : s.opn.length ≤ 1000000) (hn : s.nodes.length ≤ 1000000) (hm : s.names.length ≤ 1000000) :
    Calls Try.prog 24 #[.pointer (some ⟨b, 0, none⟩)] w (BdSaid b s.flush w) := by
  have HF := Lib.hid (S.St.flush.eq_def s)
  have hlb := h.lt
  obtain ⟨vn, vm, vo, h⟩ := h
  have HN := Lib.hid (h.put_text [])
  obtain ⟨c0, c1, c2, c3, c4, c5⟩ := h.cells
  have f3 := block_free h.block 3
  have f5 := block_free h.block 5
  have hl : 0 < s.text.length := List.length_pos_iff.2 ht
  have hx : ∃ x : ByteArray, x = ⟨s.text.toArray⟩ := ⟨_, rfl⟩
  obtain ⟨x, hx⟩ := hx
  have hxs : x.size = s.text.length := by rw [hx, size_mk]
  have hxl : x.data.toList = s.text := by rw [hx]
  rw [← hx] at c3
  have h0 : 0 < x.size := by omega
  have hne := ne_empty x h0
  have hne1 := ne_list x h0
  have hne2 := ne_list2 x h0
  have HT := Lib.hid ht; clear ht
  have HX := Lib.hid hx; clear hx
  clear c0 c1 c2 c4 h
  by_cases htop : s.top < 0
  · go_enter Try.func24, Try.ntmps24
    go_wp2_with fail
    refine (top_any b { s with text := [] } _ ⟨_, _, _, HN.out⟩ ho).mono ?_
    rintro e w' ⟨rfl, n, rfl⟩
    have hk : ({ s with text := [] } : S.St).top = s.top := rfl
    rw [hk]
    generalize s.top = k at *
    have hd : decide (k < 0) = true := by simpa using htop
    cases hw : s.wrong
    · rw [hw] at c5
      go_wp2_with fail
      refine (skip_any x 0 _ (by omega) (by omega) (by omega)).mono ?_
      rintro e w2 ⟨rfl, hb2⟩
      have hsk : skipI x 0 = (S.skip s.text 0 : Nat) := by rw [← hxl]; exact skipI_nat x 0
      rw [hsk]
      have h2 := (HN.out.ext (Below.drewN (Below.refl _ _) n)).ext hb2
      have H2 := Lib.hid h2
      have g5 := h2.cells.2.2.2.2.2
      have k5 := block_free h2.block 5
      have hw2 : ({ s with text := [] } : S.St).wrong = false := hw
      rw [hw2] at g5
      have HB2 := Lib.hid ((set_below b 3 (.string ⟨([] : S.B).toArray⟩) w).trans ((Below.drewN (Below.refl _ _) n).trans (hb2.mono (by simpa using Nat.le_of_lt hlb))))
      generalize S.skip s.text 0 = q at *
      clear h2 hb2 c3 c5 f3 f5
      have hcmp : decide ((q : Int) < (x.size : Int)) = true ∨ decide ((q : Int) < (x.size : Int)) = false := by cases decide ((q : Int) < (x.size : Int)) <;> simp
      go_wp2_with fail
      go_end0
      refine ⟨rfl, ?_, HB2.out.trans (set_below b 5 _ _)⟩
      rw [HF.out, if_neg HT.out, if_pos htop, hw, Bool.false_or, ← hxs]
      have e : decide ((q : Int) < (x.size : Int)) = decide (q < x.size) := by simp
      rw [← e]
      exact ⟨_, _, _, H2.out.put_wrong _⟩
    · rw [hw] at c5
      go_wp2_with fail
      go_end0
      refine ⟨rfl, ?_, ?_⟩
      · rw [HF.out, if_neg HT.out, if_pos htop, hw, Bool.true_or]
        exact ⟨_, _, _, (HN.out.ext (Below.drewN (Below.refl _ _) n)).put_wrong true⟩
      · exact (set_below b 3 (.string ⟨([] : S.B).toArray⟩) w).trans ((Below.drewN (Below.refl _ _) n).trans (set_below b 5 _ _))
  · go_enter Try.func24, Try.ntmps24
    go_wp2_with fail
    refine (top_any b { s with text := [] } _ ⟨_, _, _, HN.out⟩ ho).mono ?_
    rintro e w' ⟨rfl, n, rfl⟩
    have hk : ({ s with text := [] } : S.St).top = s.top := rfl
    rw [hk]
    generalize s.top = k at *
    have hd : decide (k < 0) = false := by simpa using htop
    go_wp2_with fail
    refine (put_any b { s with text := [] } 3 (-1) 0 x ByteArray.empty _ (by exact ⟨_, _, _, (HN.out.ext (Below.drewN (Below.refl _ _) n))⟩) ho hn hm).mono ?_
    rintro e w2 ⟨rfl, h2, hb2⟩
    go_wp2_with fail
    go_end0
    refine ⟨rfl, ?_, ?_⟩
    · rw [HF.out, if_neg HT.out, if_neg (Int.not_lt.2 htop), ← hxl]; exact h2
    · exact (set_below b 3 (.string ⟨([] : S.B).toArray⟩) w).trans ((Below.drewN (Below.refl _ _) n).trans hb2)
theorem flush_any (b : Nat) (s : S.St) (w : World) (h : Bd b s w) (hs : s.text.length ≤ 1000000) (ho : s.opn.length ≤ 1000000) (hn : s.nodes.length ≤ 1000000) (hm : s.names.length ≤ 1000000) :
    Calls Try.prog 24 #[.pointer (some ⟨b, 0, none⟩)] w (BdSaid b s.flush w) := by
  by_cases ht : s.text = []
  · exact flush_none b s w h ht
  · exact flush_some b s w h ht hs ho hn hm
end Go.Proofs.Ytpfalkdkiffipaa
