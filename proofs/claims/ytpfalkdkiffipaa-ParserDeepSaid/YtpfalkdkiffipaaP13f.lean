/- The parser's builder in memory: end. -/
import Derived.Test.YtpfalkdkiffipaaP13d
import Derived.Test.YtpfalkdkiffipaaS13b
namespace Go.Proofs.Ytpfalkdkiffipaa
open Go.RowKit
set_option maxRecDepth 100000
attribute [local go_sem] byt_at byt_wrap cell_lit
/-- a row of numbers with one element less -/
theorem row_pop {w : World} {base g n cap : Nat} {l : List Int} (h : w.ownsRow base 3 1 (.slice (some ⟨g, 0, none⟩) n cap) n (ints l)) : w.ownsRow base 3 1 (.slice (some ⟨g, 0, none⟩) (n - 1) cap) (n - 1) (ints l.dropLast) := by
  obtain ⟨h1, h2⟩ := h
  have hl : l.length = n := by simpa [ints] using h1
  refine ⟨by simp [ints, hl], ?_⟩
  rcases h2 with ⟨hv, _⟩ | ⟨g', cap', cur, hv, hg, hb, hc, hm, hz, ht⟩
  · simp at hv
  · simp only [Value.slice.injEq, Option.some.injEq, Addr.mk.injEq, and_true, true_and] at hv
    obtain ⟨rfl, rfl⟩ := hv
    refine .inr ⟨g, cap, cur, rfl, hg, hb, by omega, hm, hz, ?_⟩
    have e : ints l.dropLast = (ints l).take ((n - 1) * 1) := by unfold ints; rw [List.dropLast_eq_take, List.map_take, hl, Nat.mul_one]
    rw [e, ← ht, List.take_take]
    congr 1; omega
theorem BdAt.pop {b g cap : Nat} {s : S.St} {vn vm : Value} {w : World} (h : BdAt b s vn vm (.slice (some ⟨g, 0, none⟩) s.opn.length cap) w) :
    BdAt b { s with opn := s.opn.dropLast } vn vm (.slice (some ⟨g, 0, none⟩) (s.opn.length - 1) cap) (w.setCell ⟨b, 2, none⟩ (.slice (some ⟨g, 0, none⟩) (s.opn.length - 1) cap)) := by
  refine ⟨block_set h.block 2 _, row_set h.nodes, row_set h.names, ?_, h.nm, h.no, h.mo⟩
  have e : s.opn.dropLast.length = s.opn.length - 1 := by simp
  show World.ownsRow _ _ _ 1 _ s.opn.dropLast.length _
  rw [e]
  exact row_set (row_pop h.opn)
theorem row_name {w : World} {base n : Nat} {v : Value} {l : List S.B} (h : w.ownsRow base 9 1 v n (strs l)) (hn : n = l.length) (p : Nat) (h0 : p < n) :
    ∃ g cap, v = .slice (some ⟨g, 0, none⟩) n cap ∧ w.cell? ⟨g, p, none⟩ = some (.string ⟨(l.getD p []).toArray⟩) := by
  obtain ⟨a, cap, rfl, hc⟩ := row_at h
  obtain ⟨g, rfl, _, hcell⟩ := hc p (.string ⟨(l.getD p []).toArray⟩) (by unfold strs; rw [List.getElem?_map, List.getD_eq_getElem?_getD, List.getElem?_eq_getElem (by omega)]; rfl)
  exact ⟨g, cap, rfl, hcell⟩
set_option maxHeartbeats 4000000 in
theorem bend_any (b : Nat) (s : S.St) (nm : ByteArray) (w : World) (h : Bd b s w) (hs : s.text.length ≤ 1000000) (ho : s.opn.length ≤ 900000) (hn : s.nodes.length ≤ 900000) (hm : s.names.length ≤ 900000) (h2 : s.flush.opn = s.opn) (h3 : s.flush.names.length = s.flush.nodes.length) (h4 : s.flush.nodes.length ≤ s.nodes.length + 1) (ht : s.flush.top < s.flush.nodes.length) (ht2 : s.flush.opn ≠ [] → 0 ≤ s.flush.top) :
    Calls Try.prog 22 #[.pointer (some ⟨b, 0, none⟩), .string nm] w (BdSaid b (s.end_ nm.data.toList) w) := by
  have HS := Lib.hid (S.St.end_.eq_def s nm.data.toList)
  simp only [] at HS
  have HF := Lib.hid (flush_any b s w h hs (by omega) (by omega) (by omega))
  clear h
  go_enter Try.func22, Try.ntmps22
  go_wp2_with fail
  refine HF.out.mono ?_
  rintro e w1 ⟨rfl, hb1, hw1⟩
  rw [← h2] at ho
  have hn1 : s.flush.nodes.length ≤ 900001 := by omega
  clear HF h2 hs hn hm h4
  generalize s.flush = t at *
  have HB1 := Lib.hid hb1
  have HW1 := Lib.hid hw1
  clear hw1
  go_wp2_with fail
  refine (top_any b t _ HB1.out (by omega)).mono ?_
  rintro e w' ⟨rfl, n, rfl⟩
  obtain ⟨vn, vm, vo, hb⟩ := hb1
  have hbx := hb.ext (Below.drewN (Below.refl _ _) n)
  have HX := Lib.hid hbx
  have HW2 := Lib.hid (HW1.out.trans (Below.drewN (Below.refl b w1) n))
  clear hb
  generalize w1.drewN n = X at *
  obtain ⟨c0, c1, c2, c3, c4, c5⟩ := hbx.cells
  have f2 := block_free hbx.block 2
  have f5 := block_free hbx.block 5
  by_cases htop : t.top < 0
  · have hdt : decide (t.top < 0) = true := by simpa using htop
    clear hbx c0 c1 c2 c3 c4 f2
    go_wp2_with fail
    go_end0
    refine ⟨rfl, ?_, HW2.out.trans (set_below b 5 _ _)⟩
    rw [HS.out, if_pos (.inl htop)]
    exact ⟨_, _, _, HX.out.put_wrong true⟩
  · have hdt : decide (t.top < 0) = false := by simpa using htop
    obtain ⟨p, hp⟩ := Int.eq_ofNat_of_zero_le (Int.not_lt.1 htop)
    obtain ⟨g, cap, rfl, hcell⟩ := row_name hbx.names rfl p (by omega)
    have hon : 0 < t.opn.length := by
      cases h : t.opn with
      | nil => rw [S.top_none t h] at htop; omega
      | cons => simp
    obtain ⟨go, capo, rfl⟩ := own_form hbx.opn (by omega)
    have hcapo : t.opn.length ≤ capo := by
      rcases hbx.opn.2 with ⟨hv, _⟩ | ⟨_, _, _, hv, _, _, hc, _⟩
      · simp at hv
      · simp only [Value.slice.injEq] at hv; omega
    rw [hp]
    have hpl : (p : Int) < (t.names.length : Int) := by omega
    have hp0 : (0 : Int) ≤ (p : Int) := by omega
    rw [hp] at hdt
    clear hbx c0 c3 c4 HB1
    generalize hnp : t.names.getD p [] = np at *
    by_cases he : np = nm.data.toList
    · have he2 : (⟨np.toArray⟩ : ByteArray) = nm := by rw [he]
      rw [he2] at hcell
      have hn1 : IntKind.i64.wrap ((t.opn.length : Int) - 1) = (t.opn.length : Int) - 1 := wraps_i64 _ (by omega) (by omega)
      have hl0 : (0 : Int) ≤ (t.opn.length : Int) - 1 := by omega
      have hl1 : (t.opn.length : Int) - 1 ≤ (capo : Int) := by omega
      go_wp2_with fail
      go_region
      all_goals
        go_end0
        refine ⟨rfl, ?_, HW2.out.trans ((Below.drewN (Below.refl b X) 1).trans (set_below b 2 _ _))⟩
        rw [HS.out, if_neg (by rw [hp]; simp only [Int.toNat_natCast]; rw [hnp, he]; simp)]
        have hp2 := (HX.out.ext (Below.drewN (Below.refl _ _) 1)).pop
        have e : (((t.opn.length : Int) - 1).toNat) = t.opn.length - 1 := by omega
        try rw [e]
        exact ⟨_, _, _, hp2⟩
    · have he2 : (np == nm.toList) = false := by rw [ByteArray.toList_eq]; simpa using he
      go_wp2_with fail
      go_end0
      refine ⟨rfl, ?_, HW2.out.trans (set_below b 5 _ _)⟩
      rw [HS.out, if_pos (.inr (by rw [hp]; simp only [Int.toNat_natCast]; rw [hnp]; exact he))]
      exact ⟨_, _, _, HX.out.put_wrong true⟩
end Go.Proofs.Ytpfalkdkiffipaa
