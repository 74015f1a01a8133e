/- The parser's builder in memory: attr, end. -/
import Derived.Test.YtpfalkdkiffipaaP13d
import Derived.Lib.SlicesS
namespace Go.Proofs.Ytpfalkdkiffipaa
open Go.RowKit
set_option maxRecDepth 100000
attribute [local go_sem] byt_at byt_wrap cell_lit
/-- a row of strings, whole: how its slice looks, and each of its cells -/
theorem row_strs {w : World} {base n : Nat} {v : Value} {l : List S.B} (h : w.ownsRow base 9 1 v n (strs l)) (hn : n = l.length) (h0 : 0 < n) :
    ∃ g cap, v = .slice (some ⟨g, 0, none⟩) n cap ∧ n ≤ cap ∧ ∀ (i : Nat), i < n → w.cell? ⟨g, i, none⟩ = some (.string ⟨(l.getD i []).toArray⟩) := by
  obtain ⟨h1, h2⟩ := h
  rcases h2 with ⟨rfl, hz⟩ | ⟨g, cap, cur, rfl, hg, hb, hc, hm, hz, ht⟩
  · omega
  · refine ⟨g, cap, rfl, hc, fun i hi => ?_⟩
    rw [block_cell hb]
    have e : cur[i]? = (strs l)[i]? := by
      rw [← ht, List.getElem?_take_of_lt (by omega)]; simp
    rw [e]
    unfold strs
    rw [List.getElem?_map, List.getElem?_eq_getElem (by omega), Option.map_some, List.getD_eq_getElem?_getD, List.getElem?_eq_getElem (by omega)]
    rfl
theorem contains_drop (l : List S.B) (k : Nat) (x : ByteArray) : Lib.containsS ((l.drop k).map fun y => (⟨y.toArray⟩ : ByteArray)) x = (l.drop k).contains x.data.toList := by
  rw [Bool.eq_iff_iff, Lib.containsS_iff, List.contains_iff_mem, List.mem_map]
  constructor
  · rintro ⟨y, hy, rfl⟩; exact hy
  · intro h; exact ⟨_, h, by apply ByteArray.ext; simp⟩
set_option maxHeartbeats 4000000 in
theorem battr_bad (b : Nat) (s : S.St) (nm value : ByteArray) (w : World) (h : Bd b s w) (ho : s.opn.length ≤ 900000) (hn : s.nodes.length ≤ 900000) (hm : s.names.length = s.nodes.length) (ht0 : 0 ≤ s.top) (ht1 : s.top < s.nodes.length) (hw : s.wrong = true) :
    Calls Try.prog 21 #[.pointer (some ⟨b, 0, none⟩), .string nm, .string value] w (BdSaid b (s.attr nm.data.toList value.data.toList) w) := by
  have HS := Lib.hid (S.St.attr.eq_def s nm.data.toList value.data.toList)
  have HB := Lib.hid h
  obtain ⟨vn, vm, vo, h⟩ := h
  obtain ⟨c0, c1, c2, c3, c4, c5⟩ := h.cells
  have f5 := block_free h.block 5
  have HA := Lib.hid h
  obtain ⟨p, hp⟩ := Int.eq_ofNat_of_zero_le ht0
  have hpn : ((p : Int) + 1).toNat = p + 1 := by omega
  obtain ⟨cb, hcb⟩ : ∃ x, x = (s.names.drop (p + 1)).contains nm.data.toList := ⟨_, rfl⟩
  have HCB := Lib.hid hcb; clear hcb
  have hpl : p < s.names.length := by omega
  obtain ⟨g, cap, rfl, hcap, hcell⟩ := row_strs h.names rfl (by omega)
  have HC := Lib.hid hcell
  clear hcell c0 c2 c3 c4 h
  rw [hw] at c5
  go_enter Try.func21, Try.ntmps21
  go_wp2_with fail
  go_region
  all_goals
    go_wp2_with fail
    refine (put_any b { s with wrong := true } 2 0 0 value nm _ (by exact ⟨_, _, _, (HA.out.ext (Below.drewN (Below.refl _ _) 1)).put_wrong _⟩) (by simp only []; omega) (by simp only []; omega) (by simp only []; omega)).mono ?_
    rintro e w3 ⟨rfl, h3, hb3⟩
    go_wp2_with fail
    go_end0
    refine ⟨rfl, ?_, (Below.drewN (Below.refl b w) 1).trans ((set_below b 5 _ _).trans hb3)⟩
    rw [HS.out, hw, hp, Bool.true_or]
    exact h3
set_option maxHeartbeats 4000000 in
theorem battr_ok (b : Nat) (s : S.St) (nm value : ByteArray) (w : World) (h : Bd b s w) (ho : s.opn.length ≤ 900000) (hn : s.nodes.length ≤ 900000) (hm : s.names.length = s.nodes.length) (ht0 : 0 ≤ s.top) (ht1 : s.top < s.nodes.length) (hw : s.wrong = false) :
    Calls Try.prog 21 #[.pointer (some ⟨b, 0, none⟩), .string nm, .string value] w (BdSaid b (s.attr nm.data.toList value.data.toList) w) := by
  have HS := Lib.hid (S.St.attr.eq_def s nm.data.toList value.data.toList)
  have HB := Lib.hid h
  obtain ⟨vn, vm, vo, h⟩ := h
  obtain ⟨c0, c1, c2, c3, c4, c5⟩ := h.cells
  have f5 := block_free h.block 5
  have HA := Lib.hid h
  obtain ⟨p, hp⟩ := Int.eq_ofNat_of_zero_le ht0
  have hpn : ((p : Int) + 1).toNat = p + 1 := by omega
  obtain ⟨cb, hcb⟩ : ∃ x, x = (s.names.drop (p + 1)).contains nm.data.toList := ⟨_, rfl⟩
  have HCB := Lib.hid hcb; clear hcb
  have hpl : p < s.names.length := by omega
  obtain ⟨g, cap, rfl, hcap, hcell⟩ := row_strs h.names rfl (by omega)
  have HC := Lib.hid hcell
  clear hcell c0 c2 c3 c4 h
  rw [hw] at c5
  by_cases hlast : p + 1 = s.names.length
  · have hcon : ∀ (k c : Nat) (a : Option Addr), Calls Try.prog 37 #[.slice a 0 c, .string nm] (w.drewN k) fun e w' => e = .returned (.bool cb) ∧ w' = w.drewN k := fun k c a => by
      rw [HCB.out, List.drop_eq_nil_of_le (by omega)]
      exact Try.slices_Contains_string_empty a c nm (w.drewN k)
    have HCON := Lib.hid hcon; clear hcon
    have hlo : (0 : Int) ≤ (p : Int) + 1 := by omega
    have hhi : (p : Int) + 1 ≤ (s.names.length : Int) := by omega
    have hca : (s.names.length : Int) ≤ (cap : Int) := by omega
    have hwr : IntKind.i64.wrap ((p : Int) + 1) = (p : Int) + 1 := wraps_i64 _ (by omega) (by omega)
    have htn : ((p : Int) + 1).toNat = p + 1 := by omega
    have hz0 : s.nodes.length - (p + 1) = 0 := by omega
    by_cases hne : cap = p + 1
    all_goals
      go_enter Try.func21, Try.ntmps21
      go_wp2_with fail
      go_region_with (first
        | (go_at_call 23; refine (top_any b s _ ?_ (by omega)).mono ?_; (first | exact HB.out | exact HB.out.ext (Below.drewN (Below.refl _ _) _)); rintro e w' ⟨rfl, n, rfl⟩; rw [hp])
        | (go_at_call 37; (try rw [hz0]); refine (HCON.out _ _ _).mono ?_; rintro e w' ⟨rfl, rfl⟩))
      all_goals
        go_wp2_with fail
        refine (put_any b { s with wrong := cb } 2 0 0 value nm _ (by exact ⟨_, _, _, (HA.out.ext (Below.drewN (Below.refl _ _) _)).put_wrong _⟩) (by simp only []; omega) (by simp only []; omega) (by simp only []; omega)).mono ?_
        rintro e w3 ⟨rfl, h3, hb3⟩
        go_wp2_with fail
        go_end0
        refine ⟨rfl, ?_, (Below.drewN (Below.refl b w) _).trans ((set_below b 5 _ _).trans hb3)⟩
        rw [HS.out, hw, hp, Bool.false_or, hpn, ← HCB.out]
        exact h3
  · have hlo : (0 : Int) ≤ (p : Int) + 1 := by omega
    have hhi : (p : Int) + 1 ≤ (s.names.length : Int) := by omega
    have hca : (s.names.length : Int) ≤ (cap : Int) := by omega
    have hne : ¬ cap = p + 1 := by omega
    have hwr : IntKind.i64.wrap ((p : Int) + 1) = (p : Int) + 1 := wraps_i64 _ (by omega) (by omega)
    have htn : ((p : Int) + 1).toNat = p + 1 := by omega
    have hcon : ∀ k : Nat, Calls Try.prog 37 #[.slice (some ⟨g, p + 1, none⟩) (s.nodes.length - (p + 1)) (cap - (p + 1)), .string nm] (w.drewN k) fun e w' => e = .returned (.bool cb) ∧ w' = w.drewN k := fun k => by
      have hz : ((s.names.drop (p + 1)).map fun y => (⟨y.toArray⟩ : ByteArray)).length = s.nodes.length - (p + 1) := by rw [List.length_map, List.length_drop]; omega
      have := Try.slices_Contains_string g (p + 1) (s.nodes.length - (p + 1)) (cap - (p + 1)) ((s.names.drop (p + 1)).map fun y => (⟨y.toArray⟩ : ByteArray)) nm (w.drewN k) (by omega) (by omega) (by
        intro j hj
        rw [hz] at hj
        have h1 := HC.out (p + 1 + j) (by omega)
        have h2 : ((s.names.drop (p + 1)).map fun y => (⟨y.toArray⟩ : ByteArray)).getD j ByteArray.empty = ⟨(s.names.getD (p + 1 + j) []).toArray⟩ := by
          rw [List.getD_eq_getElem?_getD, List.getElem?_map, List.getElem?_drop, List.getD_eq_getElem?_getD, List.getElem?_eq_getElem (by omega)]; rfl
        rw [h2]; exact h1)
      rw [List.take_of_length_le (by omega), contains_drop, ← HCB.out] at this
      exact this
    have HCON := Lib.hid hcon; clear hcon
    go_enter Try.func21, Try.ntmps21
    go_wp2_with fail
    go_region_with (first
      | (go_at_call 23; refine (top_any b s _ ?_ (by omega)).mono ?_; (first | exact HB.out | exact HB.out.ext (Below.drewN (Below.refl _ _) _)); rintro e w' ⟨rfl, n, rfl⟩; rw [hp])
      | (go_at_call 37; refine (HCON.out _).mono ?_; rintro e w' ⟨rfl, rfl⟩))
    all_goals
      go_wp2_with fail
      refine (put_any b { s with wrong := cb } 2 0 0 value nm _ (by exact ⟨_, _, _, (HA.out.ext (Below.drewN (Below.refl _ _) _)).put_wrong _⟩) (by simp only []; omega) (by simp only []; omega) (by simp only []; omega)).mono ?_
      rintro e w3 ⟨rfl, h3, hb3⟩
      go_wp2_with fail
      go_end0
      refine ⟨rfl, ?_, (Below.drewN (Below.refl b w) _).trans ((set_below b 5 _ _).trans hb3)⟩
      rw [HS.out, hw, hp, Bool.false_or, hpn, ← HCB.out]
      exact h3
theorem battr_any (b : Nat) (s : S.St) (nm value : ByteArray) (w : World) (h : Bd b s w) (ho : s.opn.length ≤ 900000) (hn : s.nodes.length ≤ 900000) (hm : s.names.length = s.nodes.length) (ht0 : 0 ≤ s.top) (ht1 : s.top < s.nodes.length) :
    Calls Try.prog 21 #[.pointer (some ⟨b, 0, none⟩), .string nm, .string value] w (BdSaid b (s.attr nm.data.toList value.data.toList) w) := by
  cases hw : s.wrong
  · exact battr_ok b s nm value w h ho hn hm ht0 ht1 hw
  · exact battr_bad b s nm value w h ho hn hm ht0 ht1 hw
end Go.Proofs.Ytpfalkdkiffipaa
