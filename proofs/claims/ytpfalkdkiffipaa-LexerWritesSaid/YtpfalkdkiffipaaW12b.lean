/- The law LexerWrites: its walk. -/
import Derived.Test.YtpfalkdkiffipaaW12m
import Derived.Deep.AppendLies
namespace Go.Proofs.Ytpfalkdkiffipaa
open Go.RowKit
set_option maxRecDepth 100000
attribute [local go_sem] byt_at byt_wrap
set_option maxHeartbeats 4000000 in
theorem writes_walk (na va : Option Addr) (nl nc vl vc : Nat) (names : S.B) (values : List ByteArray) (q0 q1 : Int) (w : World) (hG : G w)
    (hn : ∀ j, j < nl → ∃ a : Addr, na = some a ∧ (a.add j).block < w.heap.size ∧ w.cell? (a.add j) = some (.int .u8 (byt (names.getD j 0))))
    (hv : ∀ j, j < vl → ∃ a : Addr, va = some a ∧ (a.add j).block < w.heap.size ∧ w.cell? (a.add j) = some (.string (values.getD j ByteArray.empty)))
    (hnl : nl ≤ maxLen) (hvl : vl ≤ maxLen) :
    Calls Try.prog 3 #[.slice na nl nc, .slice va vl vc, .agg #[.int .i64 q0, .int .i64 q1]] w fun e w' => e = .returned (.bool true) ∧ Below w.heap.size w w' := by
  replace hnl : nl ≤ 9223372036854775807 := hnl
  replace hvl : vl ≤ 9223372036854775807 := hvl
  have HN := Lib.hid hn; clear hn
  have HV := Lib.hid hv; clear hv
  go_enter Try.func3, Try.ntmps3
  go_wp2_with fail
  refine (awake12 _ (hG.ext ((Below.refl _ _).alloc (Nat.le_refl _) _))).mono ?_
  rintro e w1 ⟨rfl, hb1⟩
  have HB1 : Hid (Below w.heap.size w w1) := Lib.hid (((Below.refl _ _).alloc (Nat.le_refl _) _).trans (hb1.mono (by simp)))
  have hz1 : w.heap.size < w1.heap.size := by have := hb1.size; simp at this; omega
  have hq0 : w1.cell? ⟨w.heap.size, 0, none⟩ = some (.int .i64 q0) := by rw [hb1.cell (p := ⟨w.heap.size, 0, none⟩) (by simp), World.cell?_alloc_new]; rfl
  have hq1 : w1.cell? ⟨w.heap.size, 1, none⟩ = some (.int .i64 q1) := by rw [hb1.cell (p := ⟨w.heap.size, 1, none⟩) (by simp), World.cell?_alloc_new]; rfl
  have HG1 := Lib.hid (hG.ext HB1.out)
  have HQ1 := Lib.hid hq1
  clear hb1 hq1
  have hG0 := hG.pos
  go_wp2
  have hm : -4 < q0.tmod 4 ∧ q0.tmod 4 < 4 := ⟨Int.lt_tmod_of_pos q0 (by decide), Int.tmod_lt_of_pos q0 (by decide)⟩
  generalize q0.tmod 4 = m at *
  go_loop [8, 10] (fun s i => ∃ j : Nat, s = .string ⟨(([32, 10, 9] : S.B).take j).toArray⟩ ∧ i = .int .i64 j ∧ j ≤ 3 ∧ (j : Int) ≤ max 0 m) (fun _ i => (4 - intOf i).toNat)
  case atStart => exact ⟨0, rfl, rfl, by omega, by omega⟩
  case round =>
    obtain ⟨j, rfl, rfl, hj3, hj⟩ := hrel
    by_cases hjm : (j : Int) < m
    · have hj' : j < 3 := by omega
      have hm0 : 0 ≤ m := by omega
      have hmax : max 0 m = m := by omega
      obtain rfl | rfl | rfl : j = 0 ∨ j = 1 ∨ j = 2 := by omega
      · go_wp2
        go_round
        case rel => exact ⟨1, rfl, rfl, by omega, by rw [hmax]; have := hjm; simp at this ⊢; omega⟩
        case measure => simp [intOf]
      · go_wp2
        go_round
        case rel => exact ⟨2, rfl, rfl, by omega, by rw [hmax]; have := hjm; simp at this ⊢; omega⟩
        case measure => simp [intOf]
      · go_wp2
        go_round
        case rel => exact ⟨3, rfl, rfl, by omega, by rw [hmax]; have := hjm; simp at this ⊢; omega⟩
        case measure => simp [intOf]
    · have hsp : ∃ sp : S.B, Hid (([32, 10, 9] : S.B).take j = sp) ∧ sp.length ≤ 3 ∧ ∀ c ∈ sp, S.isSpace c = true := by
        refine ⟨_, Lib.hid rfl, by simp; omega, fun c hc => ?_⟩
        have := List.mem_of_mem_take hc
        simp at this
        rcases this with rfl | rfl | rfl <;> decide
      obtain ⟨sp, HSP, hsp1, hsp2⟩ := hsp
      rw [HSP.out]
      have HSS := Lib.hid hsp2; clear hsp2 HSP hj
      go_wp2
      go_loopw [11, 12, 13, 14] (fun d want called i wr => ∃ k : Nat, i = .int .i64 k ∧ k ≤ nl ∧ k ≤ vl ∧ k ≤ 6 ∧ DocAt names values sp k d ∧ RowsAt names values k want called w1 wr) (fun _ _ _ i _ => 7 - (intOf i).toNat)
      case atStart => exact ⟨0, rfl, by omega, by omega, by omega, ⟨_, rfl, Lib.hid rfl, by simp⟩, Below.refl _ _, ⟨rfl, .inl ⟨rfl, rfl⟩⟩, ⟨rfl, .inl ⟨rfl, rfl⟩⟩, Or.inl rfl⟩
      case round =>
        obtain ⟨k, rfl, hk1, hk2, hk6, ⟨d, rfl, HD, hd2⟩, hr⟩ := hrel
        have HR := Lib.hid hr; clear hr
        by_cases hgo : k < nl ∧ k < vl ∧ k < 6
        · obtain ⟨g1, g2, g3⟩ := hgo
          obtain ⟨a1, rfl, hb1, hc1⟩ := HN.out k g1
          obtain ⟨a2, rfl, hb2, hc2⟩ := HV.out k g2
          have HBR := Lib.hid (HB1.out.trans (HR.out.1.mono (Nat.le_of_lt hz1)))
          have hc1' := hc1
          rw [← HBR.out.cell (p := a1.add k) hb1] at hc1'
          have hc2' := hc2
          rw [← HBR.out.cell (p := a2.add k) hb2] at hc2'
          clear hc1 hc2
          have hb2w : (a2.add k).block < wr.heap.size := Nat.lt_of_lt_of_le hb2 HBR.out.size
          have hb1w : (a1.add k).block < wr.heap.size := Nat.lt_of_lt_of_le hb1 HBR.out.size
          generalize hcc : names.getD k 0 = c at *
          generalize hvv : values.getD k ByteArray.empty = v at *
          have hcv : (convert 22 9 (.slice (some ⟨wr.heap.size, 0, none⟩) 1 1)).run Try.prog (wr.alloc (.cells #[.int .u8 ((97 + (byt c).tmod 26) % 256)] 5)) = _ := conv_back wr _ _ [S.u8 (97 + (c.toNat : Int) % 26)] 1 rfl (by
            have hb : (byt c).tmod 26 = (c.toNat : Int) % 26 := Int.tmod_eq_emod_of_nonneg (by unfold byt; omega)
            simp only [List.map_cons, List.map_nil]
            rw [u8_nat _ (by omega) (by omega), hb, Int.emod_eq_of_lt (by omega) (by omega)])
          go_wp2_with fail
          refine (short12 v 10 _ (by decide)).mono ?_
          rintro e w' ⟨rfl, rfl⟩
          go_wp2_with fail
          have hts : (v.extract 0 10).size ≤ 10 := by rw [ByteArray.size_extract]; omega
          have htl : (v.extract 0 10).data.toList = v.data.toList.take 10 := take_list v 10
          generalize v.extract 0 10 = t at *
          refine (rvalid_any t _ (by omega)).mono ?_
          rintro e w2 ⟨rfl, hbv⟩
          have HBR2 := Lib.hid (((Below.refl _ _).alloc (Nat.le_refl _) _).trans (hbv.mono (by simp)) : Below wr.heap.size wr w2)
          clear hbv
          rw [htl]
          have hhb : hasB t 39 = (v.data.toList.take 10).contains 39 := by unfold hasB; rw [htl]
          have hcase : (S.valid (v.data.toList.take 10) = false ∧ k % 2 = 0) ∨ (S.valid (v.data.toList.take 10) = false ∧ k % 2 = 1) ∨ (S.valid (v.data.toList.take 10) = true ∧ k % 2 = 0) ∨ (S.valid (v.data.toList.take 10) = true ∧ k % 2 = 1 ∧ hasB t 39 = false) ∨ (S.valid (v.data.toList.take 10) = true ∧ k % 2 = 1 ∧ hasB t 39 = true) := by
            have hp : k % 2 = 0 ∨ k % 2 = 1 := by omega
            cases S.valid (v.data.toList.take 10) <;> cases hasB t 39 <;> simp [hp]
          rcases hcase with ⟨hval, hpar⟩ | ⟨hval, hpar⟩ | ⟨hval, hpar⟩ | ⟨hval, hpar, hhas⟩ | ⟨hval, hpar, hhas⟩
          · rw [hval]
            go_wp2_with fail
            skip
            have HQT : Hid ((34 : UInt8) = S.quote k) := Lib.hid (by unfold S.quote; rw [if_neg (by omega)])
            have hV : ∃ V : ByteArray, V = ⟨#[118]⟩ ∧ Hid (cutv k v.data.toList = V.data.toList) ∧ V.size ≤ 10 := ⟨_, rfl, Lib.hid (by unfold cutv; rw [hval]; simp [hpar]), by decide⟩
            obtain ⟨V, hVe, HCV, hVs⟩ := hV
            rw [← hVe]
            clear hVe
            refine (rescape_any V _ (by omega)).mono ?_
            rintro e w3 ⟨rfl, hb3⟩
            have HBR3 := Lib.hid (HBR2.out.trans (hb3.mono HBR2.out.size))
            clear hb3
            have hEl := escape_len V.data.toList
            rw [size_list] at hEl
            have hE : ∃ E : S.B, Hid (S.escape V.data.toList = E) ∧ E.length ≤ 60 := ⟨_, Lib.hid rfl, by omega⟩
            clear hEl
            obtain ⟨E, HE, hE⟩ := hE
            rw [HE.out]
            obtain ⟨i0, hi, hz0, hz1, hz2⟩ := info_parts infoStr
            have how := owns_keep HR.out.2.1 (fun g _ hg => HBR3.out.block g hg)
            have hoc := owns_keep HR.out.2.2.1 (fun g _ hg => HBR3.out.block g hg)
            have HOC := Lib.hid hoc; clear hoc
            have hw3 := HBR3.out.size
            have hbw := HR.out.1.size
            go_wp2_with (at_builtin; refine wpList_append_lies _ rfl _ _ 23 rfl w1.heap.size 9 i0 _ 1 16 Try.underlying23 hi hz0 hz1 hz2 rfl (by decide) _ _ _ rfl (how.alloc _) ⟨w3.heap.size, 0, none⟩ 1 1 [.string V] rfl rfl ?c1 ?c2 (by decide) ?c3 ?c4 ?c5 _ rfl ?_)
            case c1 =>
              intro j u hj
              have hj5 : j < 1 := (List.getElem?_eq_some_iff.1 hj).1
              have ha : (⟨w3.heap.size, 0, none⟩ : Addr).add j = ⟨w3.heap.size, j, none⟩ := by unfold Addr.add; split <;> simp_all
              rw [ha, World.cell?_alloc_new]
              simpa using hj
            case c2 => simp [Value.oneCell']
            case c3 => unfold maxLen; omega
            case c4 => omega
            case c5 => simp; omega
            intro g1 cap1 wa hownA hgrowA hatA hltA
            have hoc1 := (HOC.out.alloc (.cells #[.string V] 9)).kept hgrowA HR.out.2.2.2
            have HWA := Lib.hid hownA
            have HGA := Lib.hid hgrowA
            have hwa : w3.heap.size + 1 ≤ wa.heap.size := by simpa using hgrowA.size
            have HAT := Lib.hid hatA
            clear hownA hgrowA hatA how
            go_wp2_with (at_builtin; refine wpList_append_lies _ rfl _ _ 23 rfl w1.heap.size 9 i0 _ 1 16 Try.underlying23 hi hz0 hz1 hz2 rfl (by decide) _ _ _ rfl (hoc1.alloc _) ⟨wa.heap.size, 0, none⟩ 1 1 [.string (⟨#[110]⟩ ++ ⟨#[S.u8 (97 + byt c % 26)]⟩)] rfl rfl ?c1 ?c2 (by decide) ?c3 ?c4 ?c5 _ rfl ?_)
            case c1 =>
              intro j u hj
              have hj5 : j < 1 := (List.getElem?_eq_some_iff.1 hj).1
              have ha : (⟨wa.heap.size, 0, none⟩ : Addr).add j = ⟨wa.heap.size, j, none⟩ := by unfold Addr.add; split <;> simp_all
              rw [ha, World.cell?_alloc_new]
              simpa using hj
            case c2 => simp [Value.oneCell']
            case c3 => unfold maxLen; omega
            case c4 => omega
            case c5 => simp; omega
            intro g2 cap2 wb hownB hgrowB hatB hltB
            have hne1 : u13.ownBlock ≠ some g1 := by
              intro h
              rcases HAT.out with h1 | h1
              · rcases HR.out.2.2.2 with h2 | h2
                · rw [h2] at h; exact absurd h (by simp)
                · exact h2 (h.trans h1.symm)
              · have := (HOC.out.lt _ h).2
                rw [h1] at this; first | omega | (simp at this; omega)
            have howB := (HWA.out.alloc (.cells #[.string (⟨#[110]⟩ ++ ⟨#[S.u8 (97 + byt c % 26)]⟩)] 9)).kept hgrowB (.inr (fun h => hne1 h.symm))
            have hdis : (some g2 : Option Nat) = none ∨ (some g2 : Option Nat) ≠ some g1 := by
              right
              intro h
              rcases hatB with h1 | h1
              · exact hne1 (h1.trans h)
              · simp at h h1; omega
            have hbel : Below w1.heap.size w1 wb := by
              have b1 := (HR.out.1.trans (HBR3.out.mono hbw)).alloc (by omega) (.cells #[.string V] 9)
              have b2 := b1.grown HGA.out (by simp; omega) (fun k hk => (HR.out.2.1.lt k hk).1)
              have b3 := b2.alloc (by have := b2.size; omega) (.cells #[.string (⟨#[110]⟩ ++ ⟨#[S.u8 (97 + byt c % 26)]⟩)] 9)
              exact b3.grown hgrowB (by have := b2.size; simp; omega) (fun k hk => (HOC.out.lt k hk).1)
            have HWB := Lib.hid howB
            have HCB := Lib.hid hownB
            have HBB := Lib.hid hbel
            have HDI := Lib.hid hdis
            clear howB hownB hbel hdis hgrowB hatB
            go_wp2
            go_round
            case rel =>
              refine ⟨k + 1, by go_num, by omega, by omega, by omega, ?_, HBB.out, ?_, ?_, HDI.out⟩
              · exact doc_step names values sp k d c V E _ (S.quote k) HD.out hd2 hcc (by rw [hvv]; exact HCV.out) HE.out hE hsp1 HQT.out rfl
              · rw [wants_snoc, hvv, HCV.out, mk_list]; exact HWB.out
              · rw [calleds_snoc, hcc]; exact HCB.out
            case measure => simp [intOf]; omega
          · rw [hval]
            go_wp2_with fail
            (refine (has12 ⟨#[118]⟩ 39 _ (by decide)).mono ?_; rintro e w' ⟨rfl, rfl⟩; rw [show hasB ⟨#[118]⟩ 39 = false from by decide]; go_wp2_with fail)
            have HQT : Hid ((39 : UInt8) = S.quote k) := Lib.hid (by unfold S.quote; rw [if_pos (by omega)])
            have hV : ∃ V : ByteArray, V = ⟨#[118]⟩ ∧ Hid (cutv k v.data.toList = V.data.toList) ∧ V.size ≤ 10 := ⟨_, rfl, Lib.hid (by unfold cutv; rw [hval]; simp [hpar]), by decide⟩
            obtain ⟨V, hVe, HCV, hVs⟩ := hV
            rw [← hVe]
            clear hVe
            refine (rescape_any V _ (by omega)).mono ?_
            rintro e w3 ⟨rfl, hb3⟩
            have HBR3 := Lib.hid (HBR2.out.trans (hb3.mono HBR2.out.size))
            clear hb3
            have hEl := escape_len V.data.toList
            rw [size_list] at hEl
            have hE : ∃ E : S.B, Hid (S.escape V.data.toList = E) ∧ E.length ≤ 60 := ⟨_, Lib.hid rfl, by omega⟩
            clear hEl
            obtain ⟨E, HE, hE⟩ := hE
            rw [HE.out]
            obtain ⟨i0, hi, hz0, hz1, hz2⟩ := info_parts infoStr
            have how := owns_keep HR.out.2.1 (fun g _ hg => HBR3.out.block g hg)
            have hoc := owns_keep HR.out.2.2.1 (fun g _ hg => HBR3.out.block g hg)
            have HOC := Lib.hid hoc; clear hoc
            have hw3 := HBR3.out.size
            have hbw := HR.out.1.size
            go_wp2_with (at_builtin; refine wpList_append_lies _ rfl _ _ 23 rfl w1.heap.size 9 i0 _ 1 16 Try.underlying23 hi hz0 hz1 hz2 rfl (by decide) _ _ _ rfl (how.alloc _) ⟨w3.heap.size, 0, none⟩ 1 1 [.string V] rfl rfl ?c1 ?c2 (by decide) ?c3 ?c4 ?c5 _ rfl ?_)
            case c1 =>
              intro j u hj
              have hj5 : j < 1 := (List.getElem?_eq_some_iff.1 hj).1
              have ha : (⟨w3.heap.size, 0, none⟩ : Addr).add j = ⟨w3.heap.size, j, none⟩ := by unfold Addr.add; split <;> simp_all
              rw [ha, World.cell?_alloc_new]
              simpa using hj
            case c2 => simp [Value.oneCell']
            case c3 => unfold maxLen; omega
            case c4 => omega
            case c5 => simp; omega
            intro g1 cap1 wa hownA hgrowA hatA hltA
            have hoc1 := (HOC.out.alloc (.cells #[.string V] 9)).kept hgrowA HR.out.2.2.2
            have HWA := Lib.hid hownA
            have HGA := Lib.hid hgrowA
            have hwa : w3.heap.size + 1 ≤ wa.heap.size := by simpa using hgrowA.size
            have HAT := Lib.hid hatA
            clear hownA hgrowA hatA how
            go_wp2_with (at_builtin; refine wpList_append_lies _ rfl _ _ 23 rfl w1.heap.size 9 i0 _ 1 16 Try.underlying23 hi hz0 hz1 hz2 rfl (by decide) _ _ _ rfl (hoc1.alloc _) ⟨wa.heap.size, 0, none⟩ 1 1 [.string (⟨#[110]⟩ ++ ⟨#[S.u8 (97 + byt c % 26)]⟩)] rfl rfl ?c1 ?c2 (by decide) ?c3 ?c4 ?c5 _ rfl ?_)
            case c1 =>
              intro j u hj
              have hj5 : j < 1 := (List.getElem?_eq_some_iff.1 hj).1
              have ha : (⟨wa.heap.size, 0, none⟩ : Addr).add j = ⟨wa.heap.size, j, none⟩ := by unfold Addr.add; split <;> simp_all
              rw [ha, World.cell?_alloc_new]
              simpa using hj
            case c2 => simp [Value.oneCell']
            case c3 => unfold maxLen; omega
            case c4 => omega
            case c5 => simp; omega
            intro g2 cap2 wb hownB hgrowB hatB hltB
            have hne1 : u13.ownBlock ≠ some g1 := by
              intro h
              rcases HAT.out with h1 | h1
              · rcases HR.out.2.2.2 with h2 | h2
                · rw [h2] at h; exact absurd h (by simp)
                · exact h2 (h.trans h1.symm)
              · have := (HOC.out.lt _ h).2
                rw [h1] at this; first | omega | (simp at this; omega)
            have howB := (HWA.out.alloc (.cells #[.string (⟨#[110]⟩ ++ ⟨#[S.u8 (97 + byt c % 26)]⟩)] 9)).kept hgrowB (.inr (fun h => hne1 h.symm))
            have hdis : (some g2 : Option Nat) = none ∨ (some g2 : Option Nat) ≠ some g1 := by
              right
              intro h
              rcases hatB with h1 | h1
              · exact hne1 (h1.trans h)
              · simp at h h1; omega
            have hbel : Below w1.heap.size w1 wb := by
              have b1 := (HR.out.1.trans (HBR3.out.mono hbw)).alloc (by omega) (.cells #[.string V] 9)
              have b2 := b1.grown HGA.out (by simp; omega) (fun k hk => (HR.out.2.1.lt k hk).1)
              have b3 := b2.alloc (by have := b2.size; omega) (.cells #[.string (⟨#[110]⟩ ++ ⟨#[S.u8 (97 + byt c % 26)]⟩)] 9)
              exact b3.grown hgrowB (by have := b2.size; simp; omega) (fun k hk => (HOC.out.lt k hk).1)
            have HWB := Lib.hid howB
            have HCB := Lib.hid hownB
            have HBB := Lib.hid hbel
            have HDI := Lib.hid hdis
            clear howB hownB hbel hdis hgrowB hatB
            go_wp2
            go_round
            case rel =>
              refine ⟨k + 1, by go_num, by omega, by omega, by omega, ?_, HBB.out, ?_, ?_, HDI.out⟩
              · exact doc_step names values sp k d c V E _ (S.quote k) HD.out hd2 hcc (by rw [hvv]; exact HCV.out) HE.out hE hsp1 HQT.out rfl
              · rw [wants_snoc, hvv, HCV.out, mk_list]; exact HWB.out
              · rw [calleds_snoc, hcc]; exact HCB.out
            case measure => simp [intOf]; omega
          · rw [hval]
            go_wp2_with fail
            skip
            have HQT : Hid ((34 : UInt8) = S.quote k) := Lib.hid (by unfold S.quote; rw [if_neg (by omega)])
            have hV : ∃ V : ByteArray, V = t ∧ Hid (cutv k v.data.toList = V.data.toList) ∧ V.size ≤ 10 := ⟨_, rfl, Lib.hid (by unfold cutv; rw [hval]; simp [hpar, htl]), hts⟩
            obtain ⟨V, hVe, HCV, hVs⟩ := hV
            rw [← hVe]
            clear hVe
            refine (rescape_any V _ (by omega)).mono ?_
            rintro e w3 ⟨rfl, hb3⟩
            have HBR3 := Lib.hid (HBR2.out.trans (hb3.mono HBR2.out.size))
            clear hb3
            have hEl := escape_len V.data.toList
            rw [size_list] at hEl
            have hE : ∃ E : S.B, Hid (S.escape V.data.toList = E) ∧ E.length ≤ 60 := ⟨_, Lib.hid rfl, by omega⟩
            clear hEl
            obtain ⟨E, HE, hE⟩ := hE
            rw [HE.out]
            obtain ⟨i0, hi, hz0, hz1, hz2⟩ := info_parts infoStr
            have how := owns_keep HR.out.2.1 (fun g _ hg => HBR3.out.block g hg)
            have hoc := owns_keep HR.out.2.2.1 (fun g _ hg => HBR3.out.block g hg)
            have HOC := Lib.hid hoc; clear hoc
            have hw3 := HBR3.out.size
            have hbw := HR.out.1.size
            go_wp2_with (at_builtin; refine wpList_append_lies _ rfl _ _ 23 rfl w1.heap.size 9 i0 _ 1 16 Try.underlying23 hi hz0 hz1 hz2 rfl (by decide) _ _ _ rfl (how.alloc _) ⟨w3.heap.size, 0, none⟩ 1 1 [.string V] rfl rfl ?c1 ?c2 (by decide) ?c3 ?c4 ?c5 _ rfl ?_)
            case c1 =>
              intro j u hj
              have hj5 : j < 1 := (List.getElem?_eq_some_iff.1 hj).1
              have ha : (⟨w3.heap.size, 0, none⟩ : Addr).add j = ⟨w3.heap.size, j, none⟩ := by unfold Addr.add; split <;> simp_all
              rw [ha, World.cell?_alloc_new]
              simpa using hj
            case c2 => simp [Value.oneCell']
            case c3 => unfold maxLen; omega
            case c4 => omega
            case c5 => simp; omega
            intro g1 cap1 wa hownA hgrowA hatA hltA
            have hoc1 := (HOC.out.alloc (.cells #[.string V] 9)).kept hgrowA HR.out.2.2.2
            have HWA := Lib.hid hownA
            have HGA := Lib.hid hgrowA
            have hwa : w3.heap.size + 1 ≤ wa.heap.size := by simpa using hgrowA.size
            have HAT := Lib.hid hatA
            clear hownA hgrowA hatA how
            go_wp2_with (at_builtin; refine wpList_append_lies _ rfl _ _ 23 rfl w1.heap.size 9 i0 _ 1 16 Try.underlying23 hi hz0 hz1 hz2 rfl (by decide) _ _ _ rfl (hoc1.alloc _) ⟨wa.heap.size, 0, none⟩ 1 1 [.string (⟨#[110]⟩ ++ ⟨#[S.u8 (97 + byt c % 26)]⟩)] rfl rfl ?c1 ?c2 (by decide) ?c3 ?c4 ?c5 _ rfl ?_)
            case c1 =>
              intro j u hj
              have hj5 : j < 1 := (List.getElem?_eq_some_iff.1 hj).1
              have ha : (⟨wa.heap.size, 0, none⟩ : Addr).add j = ⟨wa.heap.size, j, none⟩ := by unfold Addr.add; split <;> simp_all
              rw [ha, World.cell?_alloc_new]
              simpa using hj
            case c2 => simp [Value.oneCell']
            case c3 => unfold maxLen; omega
            case c4 => omega
            case c5 => simp; omega
            intro g2 cap2 wb hownB hgrowB hatB hltB
            have hne1 : u13.ownBlock ≠ some g1 := by
              intro h
              rcases HAT.out with h1 | h1
              · rcases HR.out.2.2.2 with h2 | h2
                · rw [h2] at h; exact absurd h (by simp)
                · exact h2 (h.trans h1.symm)
              · have := (HOC.out.lt _ h).2
                rw [h1] at this; first | omega | (simp at this; omega)
            have howB := (HWA.out.alloc (.cells #[.string (⟨#[110]⟩ ++ ⟨#[S.u8 (97 + byt c % 26)]⟩)] 9)).kept hgrowB (.inr (fun h => hne1 h.symm))
            have hdis : (some g2 : Option Nat) = none ∨ (some g2 : Option Nat) ≠ some g1 := by
              right
              intro h
              rcases hatB with h1 | h1
              · exact hne1 (h1.trans h)
              · simp at h h1; omega
            have hbel : Below w1.heap.size w1 wb := by
              have b1 := (HR.out.1.trans (HBR3.out.mono hbw)).alloc (by omega) (.cells #[.string V] 9)
              have b2 := b1.grown HGA.out (by simp; omega) (fun k hk => (HR.out.2.1.lt k hk).1)
              have b3 := b2.alloc (by have := b2.size; omega) (.cells #[.string (⟨#[110]⟩ ++ ⟨#[S.u8 (97 + byt c % 26)]⟩)] 9)
              exact b3.grown hgrowB (by have := b2.size; simp; omega) (fun k hk => (HOC.out.lt k hk).1)
            have HWB := Lib.hid howB
            have HCB := Lib.hid hownB
            have HBB := Lib.hid hbel
            have HDI := Lib.hid hdis
            clear howB hownB hbel hdis hgrowB hatB
            go_wp2
            go_round
            case rel =>
              refine ⟨k + 1, by go_num, by omega, by omega, by omega, ?_, HBB.out, ?_, ?_, HDI.out⟩
              · exact doc_step names values sp k d c V E _ (S.quote k) HD.out hd2 hcc (by rw [hvv]; exact HCV.out) HE.out hE hsp1 HQT.out rfl
              · rw [wants_snoc, hvv, HCV.out, mk_list]; exact HWB.out
              · rw [calleds_snoc, hcc]; exact HCB.out
            case measure => simp [intOf]; omega
          · rw [hval]
            go_wp2_with fail
            (refine (has12 t 39 _ (by omega)).mono ?_; rintro e w' ⟨rfl, rfl⟩; rw [hhas]; go_wp2_with fail)
            have HQT : Hid ((39 : UInt8) = S.quote k) := Lib.hid (by unfold S.quote; rw [if_pos (by omega)])
            have hV : ∃ V : ByteArray, V = t ∧ Hid (cutv k v.data.toList = V.data.toList) ∧ V.size ≤ 10 := ⟨_, rfl, Lib.hid (by unfold cutv; rw [hval]; rw [hhas] at hhb; simp [hpar, htl]; intro h9; simp at hhb; exact absurd h9 hhb), hts⟩
            obtain ⟨V, hVe, HCV, hVs⟩ := hV
            rw [← hVe]
            clear hVe
            refine (rescape_any V _ (by omega)).mono ?_
            rintro e w3 ⟨rfl, hb3⟩
            have HBR3 := Lib.hid (HBR2.out.trans (hb3.mono HBR2.out.size))
            clear hb3
            have hEl := escape_len V.data.toList
            rw [size_list] at hEl
            have hE : ∃ E : S.B, Hid (S.escape V.data.toList = E) ∧ E.length ≤ 60 := ⟨_, Lib.hid rfl, by omega⟩
            clear hEl
            obtain ⟨E, HE, hE⟩ := hE
            rw [HE.out]
            obtain ⟨i0, hi, hz0, hz1, hz2⟩ := info_parts infoStr
            have how := owns_keep HR.out.2.1 (fun g _ hg => HBR3.out.block g hg)
            have hoc := owns_keep HR.out.2.2.1 (fun g _ hg => HBR3.out.block g hg)
            have HOC := Lib.hid hoc; clear hoc
            have hw3 := HBR3.out.size
            have hbw := HR.out.1.size
            go_wp2_with (at_builtin; refine wpList_append_lies _ rfl _ _ 23 rfl w1.heap.size 9 i0 _ 1 16 Try.underlying23 hi hz0 hz1 hz2 rfl (by decide) _ _ _ rfl (how.alloc _) ⟨w3.heap.size, 0, none⟩ 1 1 [.string V] rfl rfl ?c1 ?c2 (by decide) ?c3 ?c4 ?c5 _ rfl ?_)
            case c1 =>
              intro j u hj
              have hj5 : j < 1 := (List.getElem?_eq_some_iff.1 hj).1
              have ha : (⟨w3.heap.size, 0, none⟩ : Addr).add j = ⟨w3.heap.size, j, none⟩ := by unfold Addr.add; split <;> simp_all
              rw [ha, World.cell?_alloc_new]
              simpa using hj
            case c2 => simp [Value.oneCell']
            case c3 => unfold maxLen; omega
            case c4 => omega
            case c5 => simp; omega
            intro g1 cap1 wa hownA hgrowA hatA hltA
            have hoc1 := (HOC.out.alloc (.cells #[.string V] 9)).kept hgrowA HR.out.2.2.2
            have HWA := Lib.hid hownA
            have HGA := Lib.hid hgrowA
            have hwa : w3.heap.size + 1 ≤ wa.heap.size := by simpa using hgrowA.size
            have HAT := Lib.hid hatA
            clear hownA hgrowA hatA how
            go_wp2_with (at_builtin; refine wpList_append_lies _ rfl _ _ 23 rfl w1.heap.size 9 i0 _ 1 16 Try.underlying23 hi hz0 hz1 hz2 rfl (by decide) _ _ _ rfl (hoc1.alloc _) ⟨wa.heap.size, 0, none⟩ 1 1 [.string (⟨#[110]⟩ ++ ⟨#[S.u8 (97 + byt c % 26)]⟩)] rfl rfl ?c1 ?c2 (by decide) ?c3 ?c4 ?c5 _ rfl ?_)
            case c1 =>
              intro j u hj
              have hj5 : j < 1 := (List.getElem?_eq_some_iff.1 hj).1
              have ha : (⟨wa.heap.size, 0, none⟩ : Addr).add j = ⟨wa.heap.size, j, none⟩ := by unfold Addr.add; split <;> simp_all
              rw [ha, World.cell?_alloc_new]
              simpa using hj
            case c2 => simp [Value.oneCell']
            case c3 => unfold maxLen; omega
            case c4 => omega
            case c5 => simp; omega
            intro g2 cap2 wb hownB hgrowB hatB hltB
            have hne1 : u13.ownBlock ≠ some g1 := by
              intro h
              rcases HAT.out with h1 | h1
              · rcases HR.out.2.2.2 with h2 | h2
                · rw [h2] at h; exact absurd h (by simp)
                · exact h2 (h.trans h1.symm)
              · have := (HOC.out.lt _ h).2
                rw [h1] at this; first | omega | (simp at this; omega)
            have howB := (HWA.out.alloc (.cells #[.string (⟨#[110]⟩ ++ ⟨#[S.u8 (97 + byt c % 26)]⟩)] 9)).kept hgrowB (.inr (fun h => hne1 h.symm))
            have hdis : (some g2 : Option Nat) = none ∨ (some g2 : Option Nat) ≠ some g1 := by
              right
              intro h
              rcases hatB with h1 | h1
              · exact hne1 (h1.trans h)
              · simp at h h1; omega
            have hbel : Below w1.heap.size w1 wb := by
              have b1 := (HR.out.1.trans (HBR3.out.mono hbw)).alloc (by omega) (.cells #[.string V] 9)
              have b2 := b1.grown HGA.out (by simp; omega) (fun k hk => (HR.out.2.1.lt k hk).1)
              have b3 := b2.alloc (by have := b2.size; omega) (.cells #[.string (⟨#[110]⟩ ++ ⟨#[S.u8 (97 + byt c % 26)]⟩)] 9)
              exact b3.grown hgrowB (by have := b2.size; simp; omega) (fun k hk => (HOC.out.lt k hk).1)
            have HWB := Lib.hid howB
            have HCB := Lib.hid hownB
            have HBB := Lib.hid hbel
            have HDI := Lib.hid hdis
            clear howB hownB hbel hdis hgrowB hatB
            go_wp2
            go_round
            case rel =>
              refine ⟨k + 1, by go_num, by omega, by omega, by omega, ?_, HBB.out, ?_, ?_, HDI.out⟩
              · exact doc_step names values sp k d c V E _ (S.quote k) HD.out hd2 hcc (by rw [hvv]; exact HCV.out) HE.out hE hsp1 HQT.out rfl
              · rw [wants_snoc, hvv, HCV.out, mk_list]; exact HWB.out
              · rw [calleds_snoc, hcc]; exact HCB.out
            case measure => simp [intOf]; omega
          · rw [hval]
            go_wp2_with fail
            (refine (has12 t 39 _ (by omega)).mono ?_; rintro e w' ⟨rfl, rfl⟩; rw [hhas]; go_wp2_with fail)
            have HQT : Hid ((39 : UInt8) = S.quote k) := Lib.hid (by unfold S.quote; rw [if_pos (by omega)])
            have hV : ∃ V : ByteArray, V = ⟨#[119]⟩ ∧ Hid (cutv k v.data.toList = V.data.toList) ∧ V.size ≤ 10 := ⟨_, rfl, Lib.hid (by unfold cutv; rw [hval]; rw [hhas] at hhb; have h9 := hhb.symm; simp [hpar]; intro h10; simp at h9; exact absurd h9 h10), by decide⟩
            obtain ⟨V, hVe, HCV, hVs⟩ := hV
            rw [← hVe]
            clear hVe
            refine (rescape_any V _ (by omega)).mono ?_
            rintro e w3 ⟨rfl, hb3⟩
            have HBR3 := Lib.hid (HBR2.out.trans (hb3.mono HBR2.out.size))
            clear hb3
            have hEl := escape_len V.data.toList
            rw [size_list] at hEl
            have hE : ∃ E : S.B, Hid (S.escape V.data.toList = E) ∧ E.length ≤ 60 := ⟨_, Lib.hid rfl, by omega⟩
            clear hEl
            obtain ⟨E, HE, hE⟩ := hE
            rw [HE.out]
            obtain ⟨i0, hi, hz0, hz1, hz2⟩ := info_parts infoStr
            have how := owns_keep HR.out.2.1 (fun g _ hg => HBR3.out.block g hg)
            have hoc := owns_keep HR.out.2.2.1 (fun g _ hg => HBR3.out.block g hg)
            have HOC := Lib.hid hoc; clear hoc
            have hw3 := HBR3.out.size
            have hbw := HR.out.1.size
            go_wp2_with (at_builtin; refine wpList_append_lies _ rfl _ _ 23 rfl w1.heap.size 9 i0 _ 1 16 Try.underlying23 hi hz0 hz1 hz2 rfl (by decide) _ _ _ rfl (how.alloc _) ⟨w3.heap.size, 0, none⟩ 1 1 [.string V] rfl rfl ?c1 ?c2 (by decide) ?c3 ?c4 ?c5 _ rfl ?_)
            case c1 =>
              intro j u hj
              have hj5 : j < 1 := (List.getElem?_eq_some_iff.1 hj).1
              have ha : (⟨w3.heap.size, 0, none⟩ : Addr).add j = ⟨w3.heap.size, j, none⟩ := by unfold Addr.add; split <;> simp_all
              rw [ha, World.cell?_alloc_new]
              simpa using hj
            case c2 => simp [Value.oneCell']
            case c3 => unfold maxLen; omega
            case c4 => omega
            case c5 => simp; omega
            intro g1 cap1 wa hownA hgrowA hatA hltA
            have hoc1 := (HOC.out.alloc (.cells #[.string V] 9)).kept hgrowA HR.out.2.2.2
            have HWA := Lib.hid hownA
            have HGA := Lib.hid hgrowA
            have hwa : w3.heap.size + 1 ≤ wa.heap.size := by simpa using hgrowA.size
            have HAT := Lib.hid hatA
            clear hownA hgrowA hatA how
            go_wp2_with (at_builtin; refine wpList_append_lies _ rfl _ _ 23 rfl w1.heap.size 9 i0 _ 1 16 Try.underlying23 hi hz0 hz1 hz2 rfl (by decide) _ _ _ rfl (hoc1.alloc _) ⟨wa.heap.size, 0, none⟩ 1 1 [.string (⟨#[110]⟩ ++ ⟨#[S.u8 (97 + byt c % 26)]⟩)] rfl rfl ?c1 ?c2 (by decide) ?c3 ?c4 ?c5 _ rfl ?_)
            case c1 =>
              intro j u hj
              have hj5 : j < 1 := (List.getElem?_eq_some_iff.1 hj).1
              have ha : (⟨wa.heap.size, 0, none⟩ : Addr).add j = ⟨wa.heap.size, j, none⟩ := by unfold Addr.add; split <;> simp_all
              rw [ha, World.cell?_alloc_new]
              simpa using hj
            case c2 => simp [Value.oneCell']
            case c3 => unfold maxLen; omega
            case c4 => omega
            case c5 => simp; omega
            intro g2 cap2 wb hownB hgrowB hatB hltB
            have hne1 : u13.ownBlock ≠ some g1 := by
              intro h
              rcases HAT.out with h1 | h1
              · rcases HR.out.2.2.2 with h2 | h2
                · rw [h2] at h; exact absurd h (by simp)
                · exact h2 (h.trans h1.symm)
              · have := (HOC.out.lt _ h).2
                rw [h1] at this; first | omega | (simp at this; omega)
            have howB := (HWA.out.alloc (.cells #[.string (⟨#[110]⟩ ++ ⟨#[S.u8 (97 + byt c % 26)]⟩)] 9)).kept hgrowB (.inr (fun h => hne1 h.symm))
            have hdis : (some g2 : Option Nat) = none ∨ (some g2 : Option Nat) ≠ some g1 := by
              right
              intro h
              rcases hatB with h1 | h1
              · exact hne1 (h1.trans h)
              · simp at h h1; omega
            have hbel : Below w1.heap.size w1 wb := by
              have b1 := (HR.out.1.trans (HBR3.out.mono hbw)).alloc (by omega) (.cells #[.string V] 9)
              have b2 := b1.grown HGA.out (by simp; omega) (fun k hk => (HR.out.2.1.lt k hk).1)
              have b3 := b2.alloc (by have := b2.size; omega) (.cells #[.string (⟨#[110]⟩ ++ ⟨#[S.u8 (97 + byt c % 26)]⟩)] 9)
              exact b3.grown hgrowB (by have := b2.size; simp; omega) (fun k hk => (HOC.out.lt k hk).1)
            have HWB := Lib.hid howB
            have HCB := Lib.hid hownB
            have HBB := Lib.hid hbel
            have HDI := Lib.hid hdis
            clear howB hownB hbel hdis hgrowB hatB
            go_wp2
            go_round
            case rel =>
              refine ⟨k + 1, by go_num, by omega, by omega, by omega, ?_, HBB.out, ?_, ?_, HDI.out⟩
              · exact doc_step names values sp k d c V E _ (S.quote k) HD.out hd2 hcc (by rw [hvv]; exact HCV.out) HE.out hE hsp1 HQT.out rfl
              · rw [wants_snoc, hvv, HCV.out, mk_list]; exact HWB.out
              · rw [calleds_snoc, hcc]; exact HCB.out
            case measure => simp [intOf]; omega
        · have hex : ¬ k < nl ∨ (k < nl ∧ ¬ k < vl) ∨ (k < nl ∧ k < vl ∧ ¬ k < 6) := by omega
          have hq1 : wr.cell? ⟨w.heap.size, 1, none⟩ = some (.int .i64 q1) := by rw [HR.out.1.cell (p := ⟨w.heap.size, 1, none⟩) hz1]; exact HQ1.out
          have hqb : ∃ b : Bool, (q1.tmod 2 == 0) = b := ⟨_, rfl⟩
          obtain ⟨b, hqb⟩ := hqb
          obtain ⟨aw, cw, rfl, hcw⟩ := row_form HR.out.2.1
          obtain ⟨ac, cc, rfl, hcc⟩ := row_form HR.out.2.2.1
          have HCW := Lib.hid hcw; clear hcw
          have HCC := Lib.hid hcc; clear hcc
          have HGR := Lib.hid (HG1.out.below HR.out.1 (by omega))
          have HBR := Lib.hid (HB1.out.trans (HR.out.1.mono (Nat.le_of_lt hz1)))
          have HQB := Lib.hid hqb
          rcases hex with hx | ⟨hx1, hx⟩ | ⟨hx1, hx2, hx⟩ <;> cases b
          · skip
            go_wp2_with fail
            refine (lex_doc false names values sp d k _ _ HGR.out HSS.out hsp1 hk6 HD.out hd2 (by simp only [append_list]; simp)).mono ?_
            rintro r w4 ⟨hb4, v, rfl, g, cap, rfl, hg1, hg2, c1, c2, hc3⟩
            have HC3 := Lib.hid hc3; clear hc3
            have HB4 := Lib.hid hb4; clear hb4
            have hz4 := HB4.out.size
            go_wp2_with fail
            go_loopw [20] (fun i wx => ∃ j : Nat, i = .int .i64 j ∧ j ≤ k ∧ Below w4.heap.size w4 wx) (fun i _ => k - (intOf i).toNat)
            case atStart => exact ⟨0, rfl, by omega, Below.refl _ _⟩
            case round =>
              obtain ⟨i, rfl, hi, hbx⟩ := hrel
              by_cases hik : i < k
              · obtain ⟨t1, t2, t3⟩ := HC3.out i hik
                obtain ⟨gw, rfl, hgw, cw1⟩ := HCW.out i _ (wants_get names values k i hik)
                obtain ⟨gc, rfl, hgc, cc1⟩ := HCC.out i _ (calleds_get names values k i hik)
                rw [← HB4.out.cell (p := ⟨gw, i, none⟩) hgw, ← hbx.cell (p := ⟨gw, i, none⟩) (Nat.lt_of_lt_of_le hgw hz4)] at cw1
                rw [← HB4.out.cell (p := ⟨gc, i, none⟩) hgc, ← hbx.cell (p := ⟨gc, i, none⟩) (Nat.lt_of_lt_of_le hgc hz4)] at cc1
                rw [← hbx.cell (p := ⟨g, (i + 1) * 5, none⟩) hg2] at t1
                rw [← hbx.cell (p := ⟨g, (i + 1) * 5 + 3, none⟩) hg2] at t2
                rw [← hbx.cell (p := ⟨g, (i + 1) * 5 + 4, none⟩) hg2] at t3
                have HBX := Lib.hid hbx; clear hbx
                go_wp2_with fail
                go_quiet (fail)
                go_wp2
                go_round
                case rel => exact ⟨i + 1, by go_num, by omega, Below.drewN HBX.out _⟩
                case measure => simp [intOf]; omega
              · have hik' : i = k := by omega
                subst hik'
                rw [← hbx.cell (p := ⟨g, (i + 1) * 5, none⟩) hg2] at c2
                have hqx := hq1
                rw [← HB4.out.cell (p := ⟨w.heap.size, 1, none⟩) (Nat.lt_of_lt_of_le hz1 HR.out.1.size), ← hbx.cell (p := ⟨w.heap.size, 1, none⟩) (Nat.lt_of_lt_of_le hz1 (Nat.le_trans HR.out.1.size hz4))] at hqx
                have HBX := Lib.hid hbx; clear hbx
                have HFIN := Lib.hid ((HBR.out.trans (HB4.out.mono HBR.out.size)).trans (HBX.out.mono (Nat.le_trans HBR.out.size hz4)))
                go_wp2_with fail
                go_ret
                exact ⟨rfl, HFIN.out⟩
          · skip
            go_wp2_with fail
            refine (lex_doc true names values sp d k _ _ HGR.out HSS.out hsp1 hk6 HD.out hd2 (by simp only [append_list]; simp)).mono ?_
            rintro r w4 ⟨hb4, v, rfl, g, cap, rfl, hg1, hg2, c1, c2, hc3⟩
            have HC3 := Lib.hid hc3; clear hc3
            have HB4 := Lib.hid hb4; clear hb4
            have hz4 := HB4.out.size
            go_wp2_with fail
            go_loopw [20] (fun i wx => ∃ j : Nat, i = .int .i64 j ∧ j ≤ k ∧ Below w4.heap.size w4 wx) (fun i _ => k - (intOf i).toNat)
            case atStart => exact ⟨0, rfl, by omega, Below.refl _ _⟩
            case round =>
              obtain ⟨i, rfl, hi, hbx⟩ := hrel
              by_cases hik : i < k
              · obtain ⟨t1, t2, t3⟩ := HC3.out i hik
                obtain ⟨gw, rfl, hgw, cw1⟩ := HCW.out i _ (wants_get names values k i hik)
                obtain ⟨gc, rfl, hgc, cc1⟩ := HCC.out i _ (calleds_get names values k i hik)
                rw [← HB4.out.cell (p := ⟨gw, i, none⟩) hgw, ← hbx.cell (p := ⟨gw, i, none⟩) (Nat.lt_of_lt_of_le hgw hz4)] at cw1
                rw [← HB4.out.cell (p := ⟨gc, i, none⟩) hgc, ← hbx.cell (p := ⟨gc, i, none⟩) (Nat.lt_of_lt_of_le hgc hz4)] at cc1
                rw [← hbx.cell (p := ⟨g, (i + 1) * 5, none⟩) hg2] at t1
                rw [← hbx.cell (p := ⟨g, (i + 1) * 5 + 3, none⟩) hg2] at t2
                rw [← hbx.cell (p := ⟨g, (i + 1) * 5 + 4, none⟩) hg2] at t3
                have HBX := Lib.hid hbx; clear hbx
                go_wp2_with fail
                go_quiet (fail)
                go_wp2
                go_round
                case rel => exact ⟨i + 1, by go_num, by omega, Below.drewN HBX.out _⟩
                case measure => simp [intOf]; omega
              · have hik' : i = k := by omega
                subst hik'
                rw [← hbx.cell (p := ⟨g, (i + 1) * 5, none⟩) hg2] at c2
                have hqx := hq1
                rw [← HB4.out.cell (p := ⟨w.heap.size, 1, none⟩) (Nat.lt_of_lt_of_le hz1 HR.out.1.size), ← hbx.cell (p := ⟨w.heap.size, 1, none⟩) (Nat.lt_of_lt_of_le hz1 (Nat.le_trans HR.out.1.size hz4))] at hqx
                have HBX := Lib.hid hbx; clear hbx
                have HFIN := Lib.hid ((HBR.out.trans (HB4.out.mono HBR.out.size)).trans (HBX.out.mono (Nat.le_trans HBR.out.size hz4)))
                go_wp2_with fail
                go_ret
                exact ⟨rfl, HFIN.out⟩
          · skip
            go_wp2_with fail
            refine (lex_doc false names values sp d k _ _ HGR.out HSS.out hsp1 hk6 HD.out hd2 (by simp only [append_list]; simp)).mono ?_
            rintro r w4 ⟨hb4, v, rfl, g, cap, rfl, hg1, hg2, c1, c2, hc3⟩
            have HC3 := Lib.hid hc3; clear hc3
            have HB4 := Lib.hid hb4; clear hb4
            have hz4 := HB4.out.size
            go_wp2_with fail
            go_loopw [20] (fun i wx => ∃ j : Nat, i = .int .i64 j ∧ j ≤ k ∧ Below w4.heap.size w4 wx) (fun i _ => k - (intOf i).toNat)
            case atStart => exact ⟨0, rfl, by omega, Below.refl _ _⟩
            case round =>
              obtain ⟨i, rfl, hi, hbx⟩ := hrel
              by_cases hik : i < k
              · obtain ⟨t1, t2, t3⟩ := HC3.out i hik
                obtain ⟨gw, rfl, hgw, cw1⟩ := HCW.out i _ (wants_get names values k i hik)
                obtain ⟨gc, rfl, hgc, cc1⟩ := HCC.out i _ (calleds_get names values k i hik)
                rw [← HB4.out.cell (p := ⟨gw, i, none⟩) hgw, ← hbx.cell (p := ⟨gw, i, none⟩) (Nat.lt_of_lt_of_le hgw hz4)] at cw1
                rw [← HB4.out.cell (p := ⟨gc, i, none⟩) hgc, ← hbx.cell (p := ⟨gc, i, none⟩) (Nat.lt_of_lt_of_le hgc hz4)] at cc1
                rw [← hbx.cell (p := ⟨g, (i + 1) * 5, none⟩) hg2] at t1
                rw [← hbx.cell (p := ⟨g, (i + 1) * 5 + 3, none⟩) hg2] at t2
                rw [← hbx.cell (p := ⟨g, (i + 1) * 5 + 4, none⟩) hg2] at t3
                have HBX := Lib.hid hbx; clear hbx
                go_wp2_with fail
                go_quiet (fail)
                go_wp2
                go_round
                case rel => exact ⟨i + 1, by go_num, by omega, Below.drewN HBX.out _⟩
                case measure => simp [intOf]; omega
              · have hik' : i = k := by omega
                subst hik'
                rw [← hbx.cell (p := ⟨g, (i + 1) * 5, none⟩) hg2] at c2
                have hqx := hq1
                rw [← HB4.out.cell (p := ⟨w.heap.size, 1, none⟩) (Nat.lt_of_lt_of_le hz1 HR.out.1.size), ← hbx.cell (p := ⟨w.heap.size, 1, none⟩) (Nat.lt_of_lt_of_le hz1 (Nat.le_trans HR.out.1.size hz4))] at hqx
                have HBX := Lib.hid hbx; clear hbx
                have HFIN := Lib.hid ((HBR.out.trans (HB4.out.mono HBR.out.size)).trans (HBX.out.mono (Nat.le_trans HBR.out.size hz4)))
                go_wp2_with fail
                go_ret
                exact ⟨rfl, HFIN.out⟩
          · skip
            go_wp2_with fail
            refine (lex_doc true names values sp d k _ _ HGR.out HSS.out hsp1 hk6 HD.out hd2 (by simp only [append_list]; simp)).mono ?_
            rintro r w4 ⟨hb4, v, rfl, g, cap, rfl, hg1, hg2, c1, c2, hc3⟩
            have HC3 := Lib.hid hc3; clear hc3
            have HB4 := Lib.hid hb4; clear hb4
            have hz4 := HB4.out.size
            go_wp2_with fail
            go_loopw [20] (fun i wx => ∃ j : Nat, i = .int .i64 j ∧ j ≤ k ∧ Below w4.heap.size w4 wx) (fun i _ => k - (intOf i).toNat)
            case atStart => exact ⟨0, rfl, by omega, Below.refl _ _⟩
            case round =>
              obtain ⟨i, rfl, hi, hbx⟩ := hrel
              by_cases hik : i < k
              · obtain ⟨t1, t2, t3⟩ := HC3.out i hik
                obtain ⟨gw, rfl, hgw, cw1⟩ := HCW.out i _ (wants_get names values k i hik)
                obtain ⟨gc, rfl, hgc, cc1⟩ := HCC.out i _ (calleds_get names values k i hik)
                rw [← HB4.out.cell (p := ⟨gw, i, none⟩) hgw, ← hbx.cell (p := ⟨gw, i, none⟩) (Nat.lt_of_lt_of_le hgw hz4)] at cw1
                rw [← HB4.out.cell (p := ⟨gc, i, none⟩) hgc, ← hbx.cell (p := ⟨gc, i, none⟩) (Nat.lt_of_lt_of_le hgc hz4)] at cc1
                rw [← hbx.cell (p := ⟨g, (i + 1) * 5, none⟩) hg2] at t1
                rw [← hbx.cell (p := ⟨g, (i + 1) * 5 + 3, none⟩) hg2] at t2
                rw [← hbx.cell (p := ⟨g, (i + 1) * 5 + 4, none⟩) hg2] at t3
                have HBX := Lib.hid hbx; clear hbx
                go_wp2_with fail
                go_quiet (fail)
                go_wp2
                go_round
                case rel => exact ⟨i + 1, by go_num, by omega, Below.drewN HBX.out _⟩
                case measure => simp [intOf]; omega
              · have hik' : i = k := by omega
                subst hik'
                rw [← hbx.cell (p := ⟨g, (i + 1) * 5, none⟩) hg2] at c2
                have hqx := hq1
                rw [← HB4.out.cell (p := ⟨w.heap.size, 1, none⟩) (Nat.lt_of_lt_of_le hz1 HR.out.1.size), ← hbx.cell (p := ⟨w.heap.size, 1, none⟩) (Nat.lt_of_lt_of_le hz1 (Nat.le_trans HR.out.1.size hz4))] at hqx
                have HBX := Lib.hid hbx; clear hbx
                have HFIN := Lib.hid ((HBR.out.trans (HB4.out.mono HBR.out.size)).trans (HBX.out.mono (Nat.le_trans HBR.out.size hz4)))
                go_wp2_with fail
                go_ret
                exact ⟨rfl, HFIN.out⟩
          · skip
            go_wp2_with fail
            refine (lex_doc false names values sp d k _ _ HGR.out HSS.out hsp1 hk6 HD.out hd2 (by simp only [append_list]; simp)).mono ?_
            rintro r w4 ⟨hb4, v, rfl, g, cap, rfl, hg1, hg2, c1, c2, hc3⟩
            have HC3 := Lib.hid hc3; clear hc3
            have HB4 := Lib.hid hb4; clear hb4
            have hz4 := HB4.out.size
            go_wp2_with fail
            go_loopw [20] (fun i wx => ∃ j : Nat, i = .int .i64 j ∧ j ≤ k ∧ Below w4.heap.size w4 wx) (fun i _ => k - (intOf i).toNat)
            case atStart => exact ⟨0, rfl, by omega, Below.refl _ _⟩
            case round =>
              obtain ⟨i, rfl, hi, hbx⟩ := hrel
              by_cases hik : i < k
              · obtain ⟨t1, t2, t3⟩ := HC3.out i hik
                obtain ⟨gw, rfl, hgw, cw1⟩ := HCW.out i _ (wants_get names values k i hik)
                obtain ⟨gc, rfl, hgc, cc1⟩ := HCC.out i _ (calleds_get names values k i hik)
                rw [← HB4.out.cell (p := ⟨gw, i, none⟩) hgw, ← hbx.cell (p := ⟨gw, i, none⟩) (Nat.lt_of_lt_of_le hgw hz4)] at cw1
                rw [← HB4.out.cell (p := ⟨gc, i, none⟩) hgc, ← hbx.cell (p := ⟨gc, i, none⟩) (Nat.lt_of_lt_of_le hgc hz4)] at cc1
                rw [← hbx.cell (p := ⟨g, (i + 1) * 5, none⟩) hg2] at t1
                rw [← hbx.cell (p := ⟨g, (i + 1) * 5 + 3, none⟩) hg2] at t2
                rw [← hbx.cell (p := ⟨g, (i + 1) * 5 + 4, none⟩) hg2] at t3
                have HBX := Lib.hid hbx; clear hbx
                go_wp2_with fail
                go_quiet (fail)
                go_wp2
                go_round
                case rel => exact ⟨i + 1, by go_num, by omega, Below.drewN HBX.out _⟩
                case measure => simp [intOf]; omega
              · have hik' : i = k := by omega
                subst hik'
                rw [← hbx.cell (p := ⟨g, (i + 1) * 5, none⟩) hg2] at c2
                have hqx := hq1
                rw [← HB4.out.cell (p := ⟨w.heap.size, 1, none⟩) (Nat.lt_of_lt_of_le hz1 HR.out.1.size), ← hbx.cell (p := ⟨w.heap.size, 1, none⟩) (Nat.lt_of_lt_of_le hz1 (Nat.le_trans HR.out.1.size hz4))] at hqx
                have HBX := Lib.hid hbx; clear hbx
                have HFIN := Lib.hid ((HBR.out.trans (HB4.out.mono HBR.out.size)).trans (HBX.out.mono (Nat.le_trans HBR.out.size hz4)))
                go_wp2_with fail
                go_ret
                exact ⟨rfl, HFIN.out⟩
          · skip
            go_wp2_with fail
            refine (lex_doc true names values sp d k _ _ HGR.out HSS.out hsp1 hk6 HD.out hd2 (by simp only [append_list]; simp)).mono ?_
            rintro r w4 ⟨hb4, v, rfl, g, cap, rfl, hg1, hg2, c1, c2, hc3⟩
            have HC3 := Lib.hid hc3; clear hc3
            have HB4 := Lib.hid hb4; clear hb4
            have hz4 := HB4.out.size
            go_wp2_with fail
            go_loopw [20] (fun i wx => ∃ j : Nat, i = .int .i64 j ∧ j ≤ k ∧ Below w4.heap.size w4 wx) (fun i _ => k - (intOf i).toNat)
            case atStart => exact ⟨0, rfl, by omega, Below.refl _ _⟩
            case round =>
              obtain ⟨i, rfl, hi, hbx⟩ := hrel
              by_cases hik : i < k
              · obtain ⟨t1, t2, t3⟩ := HC3.out i hik
                obtain ⟨gw, rfl, hgw, cw1⟩ := HCW.out i _ (wants_get names values k i hik)
                obtain ⟨gc, rfl, hgc, cc1⟩ := HCC.out i _ (calleds_get names values k i hik)
                rw [← HB4.out.cell (p := ⟨gw, i, none⟩) hgw, ← hbx.cell (p := ⟨gw, i, none⟩) (Nat.lt_of_lt_of_le hgw hz4)] at cw1
                rw [← HB4.out.cell (p := ⟨gc, i, none⟩) hgc, ← hbx.cell (p := ⟨gc, i, none⟩) (Nat.lt_of_lt_of_le hgc hz4)] at cc1
                rw [← hbx.cell (p := ⟨g, (i + 1) * 5, none⟩) hg2] at t1
                rw [← hbx.cell (p := ⟨g, (i + 1) * 5 + 3, none⟩) hg2] at t2
                rw [← hbx.cell (p := ⟨g, (i + 1) * 5 + 4, none⟩) hg2] at t3
                have HBX := Lib.hid hbx; clear hbx
                go_wp2_with fail
                go_quiet (fail)
                go_wp2
                go_round
                case rel => exact ⟨i + 1, by go_num, by omega, Below.drewN HBX.out _⟩
                case measure => simp [intOf]; omega
              · have hik' : i = k := by omega
                subst hik'
                rw [← hbx.cell (p := ⟨g, (i + 1) * 5, none⟩) hg2] at c2
                have hqx := hq1
                rw [← HB4.out.cell (p := ⟨w.heap.size, 1, none⟩) (Nat.lt_of_lt_of_le hz1 HR.out.1.size), ← hbx.cell (p := ⟨w.heap.size, 1, none⟩) (Nat.lt_of_lt_of_le hz1 (Nat.le_trans HR.out.1.size hz4))] at hqx
                have HBX := Lib.hid hbx; clear hbx
                have HFIN := Lib.hid ((HBR.out.trans (HB4.out.mono HBR.out.size)).trans (HBX.out.mono (Nat.le_trans HBR.out.size hz4)))
                go_wp2_with fail
                go_ret
                exact ⟨rfl, HFIN.out⟩
end Go.Proofs.Ytpfalkdkiffipaa
