/- The law ParserDeep: the walk. -/
import Derived.Test.YtpfalkdkiffipaaW13a
import Derived.Test.YtpfalkdkiffipaaS13d
import Derived.Laws.BytesArg
namespace Go.Proofs.Ytpfalkdkiffipaa
open Go.RowKit
set_option maxRecDepth 100000
attribute [local go_sem] byt_at byt_wrap cell_lit
theorem rest_n (x c m : Int) (hm : 0 < m) (hm2 : m ≤ 100) (hc : 0 ≤ c) (hc2 : c ≤ 10000) : ∃ n : Nat, wrap64 (c + (wrap64 (x.tmod m + m)).tmod m) = (n : Int) ∧ c ≤ n ∧ (n : Int) < c + m := by
  have h1 := Int.tmod_lt_of_pos x hm
  have h2 : -m < x.tmod m := by
    have h3 := Int.natAbs_tmod x m
    have h4 : x.natAbs % m.natAbs < m.natAbs := Nat.mod_lt _ (by omega)
    omega
  have e1 : wrap64 (x.tmod m + m) = x.tmod m + m := by simp only [wrap64]; omega
  rw [e1]
  have h5 := Int.tmod_lt_of_pos (x.tmod m + m) hm
  have h6 : 0 ≤ (x.tmod m + m).tmod m := Int.tmod_nonneg _ (by omega)
  have e2 : wrap64 (c + (x.tmod m + m).tmod m) = c + (x.tmod m + m).tmod m := by simp only [wrap64]; omega
  rw [e2]
  exact ⟨(c + (x.tmod m + m).tmod m).toNat, by omega, by omega, by omega⟩
/-- n elements one in the other: what Parse tells -/
theorem parse_deep (n : Nat) (s : ByteArray) (hs : s.data.toList = S.deepDoc n) (h0 : 0 < n) (h1 : n ≤ 5000) (w : World) (hG : G w) : Calls Try.prog 14 #[.string s] w fun e w' => Below w.heap.size w w' ∧ ∃ ak ck nk an cn nn, e = .returned (.tuple #[.agg #[.slice ak nk ck, .slice an nn cn], .int .i64 (if 66 ≤ n then 18 else 0)]) := by
  refine (parse_any s w hG).mono ?_
  rintro e w' ⟨hb, hm⟩
  obtain ⟨t, ht⟩ := S.deep_law n h0 h1
  rw [hs, ht] at hm
  by_cases h : 66 ≤ n
  · rw [if_pos h] at hm ⊢
    exact ⟨hb, _, _, _, _, _, _, hm⟩
  · rw [if_neg h] at hm ⊢
    obtain ⟨ks, ns⟩ := t
    obtain ⟨vk, vn, rfl, h1, h2, _⟩ := hm
    obtain ⟨ak, ck, rfl⟩ := row_form h1
    obtain ⟨an, cn, rfl⟩ := row_form h2
    exact ⟨hb, _, _, _, _, _, _, rfl⟩
theorem parse_wide (m : Nat) (s : ByteArray) (hs : s.data.toList = S.wideDoc m) (h1 : m ≤ 10000) (w : World) (hG : G w) : Calls Try.prog 14 #[.string s] w fun e w' => Below w.heap.size w w' ∧ ∃ ak ck nk an cn, e = .returned (.tuple #[.agg #[.slice ak nk ck, .slice an (if 5000 ≤ m then 0 else m + 1) cn], .int .i64 (if 5000 ≤ m then 18 else 0)]) := by
  refine (parse_any s w hG).mono ?_
  rintro e w' ⟨hb, hm⟩
  obtain ⟨ks, ns, ht, hl⟩ := S.wide_law m h1
  rw [hs, ht] at hm
  by_cases h : 5000 ≤ m
  · rw [if_pos h] at hm
    rw [if_pos h, if_pos h]
    exact ⟨hb, _, _, _, _, _, hm⟩
  · rw [if_neg h] at hm
    rw [if_neg h, if_neg h]
    obtain ⟨vk, vn, rfl, h1, h2, _⟩ := hm
    obtain ⟨ak, ck, rfl⟩ := row_form h1
    obtain ⟨an, cn, rfl⟩ := row_form h2
    rw [hl]
    exact ⟨hb, _, _, _, _, _, rfl⟩
def wideHead (k : Nat) : S.B := [60, 114, 62] ++ S.rep S.eE k
theorem wideHead_len (k : Nat) : (wideHead k).length = 3 + 4 * k := by unfold wideHead; rw [List.length_append, S.rep_len]; simp [S.eE]; omega
theorem wideHead_step (k : Nat) : wideHead (k + 1) = wideHead k ++ S.eE := by unfold wideHead; rw [S.rep, List.append_assoc]
theorem byteCells_app (a b : S.B) : Lib.byteCells (a ++ b) = Lib.byteCells a ++ Lib.byteCells b := by simp [Lib.byteCells]
theorem row_bytes {w : World} {base n : Nat} {v : Value} {l : S.B} (h : w.ownsRow base 5 1 v n (Lib.byteCells l)) (hn : n = l.length) (h0 : 0 < n) :
    ∃ g cap, v = .slice (some ⟨g, 0, none⟩) n cap ∧ ∀ i, i < n → w.cell? ⟨g, 0 + i, none⟩ = some (.int .u8 ((l.map fun b => (b.toNat : Int)).getD i 0)) := by
  obtain ⟨h1, h2⟩ := h
  rcases h2 with ⟨rfl, hz⟩ | ⟨g, cap, cur, rfl, hg, hb, hc, hm, hz, ht⟩
  · omega
  · refine ⟨g, cap, rfl, fun i hi => ?_⟩
    rw [Nat.zero_add, block_cell hb]
    have e : cur[i]? = (Lib.byteCells l)[i]? := by
      rw [← ht, List.getElem?_take_of_lt (by omega)]; simp
    rw [e]
    unfold Lib.byteCells
    rw [List.getElem?_map, List.getElem?_eq_getElem (by omega), Option.map_some, List.getD_eq_getElem?_getD, List.getElem?_map, List.getElem?_eq_getElem (by omega)]
    rfl
theorem nums_bytes (l : S.B) : (strOfNums (l.map fun b => (b.toNat : Int))).data.toList = l := by
  rw [strOfNums_data, List.map_map]
  conv => rhs; rw [← List.map_id l]
  apply List.map_congr_left
  intro x _; simp
set_option maxHeartbeats 16000000 in
theorem deep_walk (deep many : Int) (w : World) (hG : G w) : Calls Try.prog 5 #[.int .i64 deep, .int .i64 many] w fun e w' => e = .returned (.bool true) ∧ Below w.heap.size w w' := by
  obtain ⟨n, hn, hn0, hn1⟩ := rest_n deep 60 10 (by omega) (by omega) (by omega) (by omega)
  obtain ⟨m, hm, hm0, hm1⟩ := rest_n many 4990 20 (by omega) (by omega) (by omega) (by omega)
  obtain ⟨i0, hi, hz0, hz1, hz2⟩ := info_parts infoByte
  go_enter Try.func5, Try.ntmps5
  go_wp2_with fail
  refine (awake13 w hG).mono ?_
  rintro e w1 ⟨rfl, hb1⟩
  go_wp2_with fail
  rw [hn]
  have HM := Lib.hid hm
  have HB1 := Lib.hid hb1
  clear hm hn hb1
  go_loopw [7, 8, 9] (fun a c i wr => ∃ k : Nat, i = .int .i64 k ∧ k ≤ n ∧ a = .string ⟨(S.rep S.eT k).toArray⟩ ∧ c = .string ⟨(S.rep S.eC k).toArray⟩ ∧ w1 = wr) (fun _ _ i _ => n - (intOf i).toNat)
  case atStart => exact ⟨0, rfl, by omega, rfl, rfl, rfl⟩
  case round =>
    obtain ⟨k, rfl, hk, rfl, rfl, rfl⟩ := hrel
    have hl1 : (S.rep S.eT k).length ≤ 1000 := by rw [S.rep_len]; simp [S.eT]; omega
    have hl2 : (S.rep S.eC k).length ≤ 1000 := by rw [S.rep_len]; simp [S.eC]; omega
    by_cases hlt : k < n
    · have ha1 := run_string_add_sum (P := Try.prog) w1 (⟨(S.rep S.eT k).toArray⟩ : ByteArray) (⟨#[60, 101, 62]⟩ : ByteArray) (by rw [size_mk]; show _ + 3 ≤ _; omega)
      have ha2 := run_string_add_sum (P := Try.prog) w1 (⟨(S.rep S.eC k).toArray⟩ : ByteArray) (⟨#[60, 47, 101, 62]⟩ : ByteArray) (by rw [size_mk]; show _ + 4 ≤ _; omega)
      have e1 : (⟨(S.rep S.eT k).toArray⟩ : ByteArray) ++ (⟨#[60, 101, 62]⟩ : ByteArray) = ⟨(S.rep S.eT (k + 1)).toArray⟩ := cat_bytes (S.rep S.eT k) S.eT
      have e2 : (⟨(S.rep S.eC k).toArray⟩ : ByteArray) ++ (⟨#[60, 47, 101, 62]⟩ : ByteArray) = ⟨(S.rep S.eC (k + 1)).toArray⟩ := cat_bytes (S.rep S.eC k) S.eC
      rw [e1] at ha1
      rw [e2] at ha2
      have HE := Lib.hid (And.intro e1 e2)
      clear e1 e2
      go_wp2_with fail
      go_roundw
      case rel => exact ⟨k + 1, by simp, by omega, rfl, rfl, by simp⟩
      case measure => simp [intOf]; omega
    · have hke : k = n := by omega
      subst hke
      have ha := run_string_add_sum (P := Try.prog) w1 (⟨(S.rep S.eT k).toArray⟩ : ByteArray) (⟨(S.rep S.eC k).toArray⟩ : ByteArray) (by rw [size_mk, size_mk]; omega)
      rw [cat_bytes] at ha
      go_wp2_with fail
      refine (parse_deep k ⟨(S.rep S.eT k ++ S.rep S.eC k).toArray⟩ rfl (by omega) (by omega) w1 (hG.ext HB1.out)).mono ?_
      rintro e w2 ⟨hb2, ak, ck, nk, an, cn, nn, rfl⟩
      have HB2 := Lib.hid (HB1.out.trans (hb2.mono HB1.out.size))
      have hsz2 := hb2.size
      have hsz1 := HB1.out.size
      clear hb2 ha hl1 hl2
      obtain ⟨ev, kb, hev, hkb, hcs⟩ : ∃ (ev : Int) (kb : Bool), (if 66 ≤ k then (18 : Int) else 0) = ev ∧ decide ((k : Int) ≤ 65) = kb ∧ ((ev = 18 ∧ kb = false) ∨ (ev = 0 ∧ kb = true)) := by
        by_cases h : 66 ≤ k
        · exact ⟨_, _, rfl, rfl, .inl ⟨if_pos h, decide_eq_false (by omega)⟩⟩
        · exact ⟨_, _, rfl, rfl, .inr ⟨if_neg h, decide_eq_true (by omega)⟩⟩
      rw [hev]
      clear hev
      have HG := Lib.hid hG; clear hG
      have HMM := Lib.hid HM.out
      rcases hcs with ⟨rfl, rfl⟩ | ⟨rfl, rfl⟩
      all_goals
        have hmr := HM.out
        go_wp2_with (at_make; refine wpList_make_own _ rfl _ _ _ rfl w1.heap.size 5 i0 _ 1 Try.underlying22 hi hz0 hz1 .i64 .i64 _ (5 * m + 10) rfl rfl (by simp) (by rw [hz2]; omega) (by unfold maxLen; omega) (by simp; omega) ?_)
        intro W3 hown3 hgrow3
        have HB3 := Lib.hid (Below.grown ((HB2.out).alloc (by omega) _) hgrow3 (by simp; omega) (by simp))
        have hz3 := hgrow3.size
        simp only [World.alloc, Array.size_push] at hz3
        clear hgrow3
        go_wp2_with (at_builtin; refine Lib.wpList_append_own_string _ rfl _ _ 22 9 rfl w1.heap.size 5 i0 Try.underlying22 Try.underlying9 hi hz0 hz1 hz2 _ _ _ rfl hown3 ⟨#[60, 114, 62]⟩ rfl (by show 0 + 3 ≤ maxLen; unfold maxLen; omega) (by show 0 + 3 ≤ _; omega) (by omega) ?_)
        intro v4 W4 hown4 hgrow4 _
        have HB4 := Lib.hid (Below.grown HB3.out hgrow4 (by omega) (fun j hj => by have := (hown3.lt j hj).1; omega))
        have hz4 := hgrow4.size
        have hown5 : W4.ownsRow w1.heap.size 5 1 v4 (wideHead 0).length (Lib.byteCells (wideHead 0)) := hown4
        have HO5 := Lib.hid hown5
        clear hown5 hown4 hgrow4 hown3
        go_wp2_with fail
        go_loopw [13, 14] (fun v i wr => ∃ k : Nat, i = .int .i64 k ∧ k ≤ m ∧ wr.ownsRow w1.heap.size 5 1 v (wideHead k).length (Lib.byteCells (wideHead k)) ∧ Below w.heap.size w wr ∧ w1.heap.size ≤ wr.heap.size) (fun _ i _ => m - (intOf i).toNat)
        case atStart => exact ⟨0, rfl, by omega, HO5.out, HB4.out, by omega⟩
        case round =>
          obtain ⟨j, rfl, hj, hown, hbel, hsz⟩ := hrel
          have hwl := wideHead_len j
          have HBL := Lib.hid hbel
          clear hbel
          by_cases hjm : j < m
          · go_wp2_with (at_builtin; refine Lib.wpList_append_own_string _ rfl _ _ 22 9 rfl w1.heap.size 5 i0 Try.underlying22 Try.underlying9 hi hz0 hz1 hz2 _ _ _ rfl hown ⟨#[60, 101, 47, 62]⟩ rfl (by show _ + 4 ≤ maxLen; unfold maxLen; omega) (by show _ + 4 ≤ _; omega) (by omega) ?_)
            intro v6 W6 hown6 hgrow6 _
            have HB6 := Lib.hid (Below.grown HBL.out hgrow6 (by omega) (fun j hj => by have := (hown.lt j hj).1; omega))
            have hz6 := hgrow6.size
            have hown7 : W6.ownsRow w1.heap.size 5 1 v6 (wideHead (j + 1)).length (Lib.byteCells (wideHead (j + 1))) := by
              rw [wideHead_step, List.length_append, byteCells_app, hwl]; exact hown6
            have HO7 := Lib.hid hown7
            clear hown7 hown6 hgrow6 hown
            go_wp2_with fail
            go_roundw
            case rel => exact ⟨j + 1, by simp, by omega, HO7.out, HB6.out, by omega⟩
            case measure => simp [intOf]; omega
          · have hje : j = m := by omega
            subst hje
            go_wp2_with (at_builtin; refine Lib.wpList_append_own_string _ rfl _ _ 22 9 rfl w1.heap.size 5 i0 Try.underlying22 Try.underlying9 hi hz0 hz1 hz2 _ _ _ rfl hown ⟨#[60, 47, 114, 62]⟩ rfl (by show _ + 4 ≤ maxLen; unfold maxLen; omega) (by show _ + 4 ≤ _; omega) (by omega) ?_)
            intro v6 W6 hown6 hgrow6 _
            have HB6 := Lib.hid (Below.grown HBL.out hgrow6 (by omega) (fun j hj => by have := (hown.lt j hj).1; omega))
            have hown7 : W6.ownsRow w1.heap.size 5 1 v6 (S.wideDoc j).length (Lib.byteCells (S.wideDoc j)) := by
              show W6.ownsRow _ _ 1 _ (wideHead j ++ [60, 47, 114, 62]).length (Lib.byteCells (wideHead j ++ [60, 47, 114, 62]))
              rw [List.length_append, byteCells_app, hwl]; exact hown6
            have hlen : 0 < (S.wideDoc j).length := by unfold S.wideDoc; simp
            obtain ⟨gd, cd, rfl, hcell⟩ := row_bytes hown7 rfl hlen
            have hconv := run_convert_bytes_arg (P := Try.prog) W6 22 5 Try.underlying22 Try.underlying5 gd 0 (S.wideDoc j).length cd ((S.wideDoc j).map fun b => (b.toNat : Int)) (by simp) hcell 9 Try.underlying9
            clear hown7 hown6 hgrow6 hown hcell
            have HCV := Lib.hid (nums_bytes (S.wideDoc j))
            generalize strOfNums ((S.wideDoc j).map fun b => (b.toNat : Int)) = str at *
            generalize (S.wideDoc j).length = len at *
            go_wp2_with fail
            refine (parse_wide j str HCV.out (by omega) W6 (HG.out.ext HB6.out)).mono ?_
            rintro e W7 ⟨hb7, ak2, ck2, nk2, an2, cn2, rfl⟩
            have HB7 := Lib.hid (HB6.out.trans (hb7.mono HB6.out.size))
            clear hb7 hconv
            by_cases h5 : 5000 ≤ j
            · rw [if_pos h5, if_pos h5]
              have hd5 : decide ((4999 : Int) < (j : Int)) = true := decide_eq_true (by omega)
              go_wp2_with fail
              go_ret
              exact ⟨rfl, HB7.out.alloc (by have := HB7.out.size; omega) _⟩
            · rw [if_neg h5, if_neg h5]
              have hd5 : decide ((4999 : Int) < (j : Int)) = false := decide_eq_false (by omega)
              go_wp2_with fail
              go_ret
              exact ⟨rfl, HB7.out.alloc (by have := HB7.out.size; omega) _⟩
end Go.Proofs.Ytpfalkdkiffipaa
