/- The lexer's steps: a tag. -/
import Derived.Test.YtpfalkdkiffipaaL12h
import Derived.Test.YtpfalkdkiffipaaS12a
namespace Go.Proofs.Ytpfalkdkiffipaa
open Go.RowKit
set_option maxRecDepth 100000
attribute [local go_sem] byt_at byt_wrap cell_lit
theorem attrsF_step (k : Nat) (d : S.B) (q : Nat) : S.attrsF (k + 1) d q = if Lib.hasPrefix (d.drop (S.skip d q)) [62] then some ([⟨3, S.skip d q, S.skip d q + 1, [], []⟩], S.skip d q + 1) else
    if Lib.hasPrefix (d.drop (S.skip d q)) [47, 62] then some ([⟨4, S.skip d q, S.skip d q + 2, [], []⟩], S.skip d q + 2) else
    match S.attr d q with
    | none => none
    | some (l, q) => (S.attrsF k d q).map fun x => (l ++ x.1, x.2) := rfl
/-- the state of the loop over a tag's attributes: g rounds at most are to come -/
def TagLoop (b : Nat) (doc : ByteArray) (ts : List S.Tok) (x : Option (List S.Tok × Nat)) (w : World) (g : Nat) (wr : World) : Prop :=
  Below b w wr ∧ ((∃ (q : Nat) (acc : List S.Tok), Rd b doc q (ts ++ acc) false wr ∧ x = (S.attrsF g doc.data.toList q).map (fun y => (acc ++ y.1, y.2)) ∧ q ≤ doc.size ∧ doc.size < q + g ∧ ts.length + acc.length ≤ q) ∨
    (x = none ∧ ∃ at_ ts', Rd b doc at_ ts' true wr))
theorem rd_lt {b : Nat} {doc : ByteArray} {at_ : Int} {ts : List S.Tok} {wr : Bool} {w : World} (h : Rd b doc at_ ts wr w) : b < w.heap.size := let ⟨_, h⟩ := h; lt_of_block h.block
set_option maxHeartbeats 8000000 in
theorem tag_any (b : Nat) (doc : ByteArray) (p : Nat) (ts : List S.Tok) (w : World) (h : Rd b doc p ts false w) (hs : doc.size ≤ 1000000) (hn : ts.length ≤ p) (hG : G w) (hb0 : 0 < b)
    (hp : p + 1 ≤ doc.size) : Calls Try.prog 34 #[.pointer (some ⟨b, 0, none⟩)] w (StepSaid b doc ts (S.tag doc.data.toList p) w) := by
  have H := Lib.hid h; clear h
  have HS := Lib.hid (S.tag.eq_def doc.data.toList p)
  have hlt : b < w.heap.size := rd_lt H.out
  have HN1 := Lib.hid (fun w => name_at doc (p + 1) (p + 1) w (by omega) (by omega) hp)
  obtain ⟨hb1, hb2⟩ := nameEnd_le doc (p + 1) hp
  generalize S.nameEnd doc.data.toList (p + 1) = en at HS HN1 hb1 hb2
  obtain ⟨v, hrd⟩ := H.out
  obtain ⟨c0, c1, c2, c3⟩ := hrd.cells
  clear hrd
  have k0 : IntKind.i64.wrap ((p : Int) + 1) = (p : Int) + 1 := wrap_in _ (by omega) (by omega)
  go_enter Try.func34, Try.ntmps34
  go_wp2
  go_step3
  go_wp2
  go_still_tail 9, (by kernel_rfl)
  go_wp2_with fail
  refine (HN1.out _).mono ?_
  rintro e w1 ⟨rfl, hw1⟩
  have HW1 : Hid (Below w.heap.size w w1) := Lib.hid (lit_trans hw1 rfl rfl rfl rfl)
  have hz1 := HW1.out.size
  obtain ⟨v1, hrd1⟩ := H.out.ext HW1.out
  have HR1 := Lib.hid (H.out.ext HW1.out)
  obtain ⟨d0, d1, d2, d3⟩ := hrd1.cells
  clear hrd1 hw1 c0 c1 c2 c3
  by_cases he : en = p + 1
  · have he1 : ((en : Int) == (p : Int) + 1) = true := by simp; omega
    have HE := Lib.hid he; clear he
    go_wp2_with fail
    refine (fails_any b doc p ts false _ HR1.out).mono ?_
    rintro e w3 ⟨rfl, hr, hb⟩
    go_wp2_with fail
    try rw [Exit.noGoto_ret]
    go_end0
    exact step_none (by rw [HS.out, if_pos HE.out]) ((HW1.out.mono (Nat.le_of_lt hlt)).trans hb) hr
  · have he1 : ((en : Int) == (p : Int) + 1) = false := by simp; omega
    have HE := Lib.hid he; clear he
    have g1 : (0 : Int) ≤ (p : Int) + 1 := by omega
    have g2 : (p : Int) + 1 ≤ (en : Int) := by omega
    have g3 : ((p : Int) + 1).toNat = p + 1 := by omega
    go_wp2_with fail
    go_still_tail 17, (by kernel_rfl)
    go_wp2_with fail
    refine (tell_any b doc _ _ p 1 _ _ ts false _ (by exact HR1.out.ext ⟨rfl, rfl, rfl, Nat.le_refl _, fun _ _ => rfl⟩) (by omega)).mono ?_
    rintro e w2 ⟨rfl, hr, hb⟩
    rw [part_list] at hr
    have HR2 := Lib.hid hr
    have HW2 := Lib.hid ((HW1.out.mono (Nat.le_of_lt hlt)).trans (lit_trans hb rfl rfl rfl rfl))
    clear hr hb d0 d1 d2 d3
    have hx0 : S.tag doc.data.toList p = (S.attrsF (doc.size + 1) doc.data.toList en).map fun x => (⟨1, p, en, S.part doc.data.toList (p + 1) en, []⟩ :: x.1, x.2) := by rw [HS.out, if_neg HE.out, size_list]
    have HX := Lib.hid hx0; clear hx0
    have hxe : ∃ X, X = S.attrsF (doc.size + 1) doc.data.toList en := ⟨_, rfl⟩
    obtain ⟨X, hX⟩ := hxe
    rw [← hX] at HX
    have HXe := Lib.hid hX; clear hX
    generalize hts : ts ++ [(⟨1, p, en, S.part doc.data.toList (p + 1) en, []⟩ : S.Tok)] = ts1 at HR2
    have HTS := Lib.hid hts
    have hl1 : ts1.length = ts.length + 1 := by rw [← hts]; simp
    have hl2 : ts1.length ≤ en := by omega
    clear hts hl1 g1 g2 g3 k0
    go_wp2_with fail
    go_step3
    go_wp2
    go_loopg [3] (doc.size + 1) (fun g _ wr => TagLoop b doc ts1 X w g wr)
    case atStart => exact ⟨HW2.out, .inl ⟨en, [], by simpa using HR2.out, by rw [HXe.out]; cases S.attrsF (doc.size + 1) doc.data.toList en <;> simp, hb2, by omega, by simpa using hl2⟩⟩
    case round =>
      obtain ⟨hbw, hst⟩ := hrel
      have HBW := Lib.hid hbw; clear hbw
      rcases hst with ⟨q, acc, hrd, hx, hq1, hq2, hq3⟩ | ⟨hx, at_, ts', hrd⟩
      · have HXX := Lib.hid hx; clear hx
        have HR := Lib.hid hrd
        have hltr := rd_lt hrd
        obtain ⟨v, hrd⟩ := hrd
        obtain ⟨c0, c1, c2, c3⟩ := hrd.cells
        clear hrd
        obtain ⟨g, rfl⟩ : ∃ m, gk = m + 1 := ⟨gk - 1, by omega⟩
        have HST := Lib.hid (attrsF_step g doc.data.toList q)
        have HK := Lib.hid (fun w => skip_at doc q q w (by omega) rfl hq1)
        obtain ⟨hs1, hs2⟩ := skip_le doc q hq1
        generalize S.skip doc.data.toList q = i at HST HK hs1 hs2
        go_wp2_with fail
        go_still_tail 8, (by kernel_rfl)
        go_wp2_with fail
        refine (HK.out _).mono ?_
        rintro e w3 ⟨rfl, hw3⟩
        have HW3 : Hid (Below wr.heap.size wr w3) := Lib.hid (lit_trans hw3 rfl rfl rfl rfl)
        have HR3 := Lib.hid (HR.out.ext HW3.out)
        have HB3 := Lib.hid (HBW.out.trans (HW3.out.mono (Nat.le_of_lt hltr)))
        clear hw3 c0 c1 c2 c3
        by_cases hgt : Lib.hasPrefix (doc.data.toList.drop i) [62] = true
        · have HG1 := Lib.hid hgt; clear hgt
          go_wp2_with fail
          refine (stands_gt b doc i i q (ts1 ++ acc) false _ true HR3.out rfl hs2 HG1.out).mono ?_
          rintro e w4 ⟨rfl, n, rfl⟩
          go_wp2_with fail
          refine (tell_any b doc _ _ q 3 _ _ (ts1 ++ acc) false _ (HR3.out.ext (Below.drewN (Below.refl _ _) n)) (by simp; omega)).mono ?_
          rintro e w5 ⟨rfl, hr, hb⟩
          go_wp2_with fail
          try rw [Exit.noGoto_ret]
          try rw [Exit.noGoto_normal]
          go_end0
          refine step_some (l := ⟨1, p, en, S.part doc.data.toList (p + 1) en, []⟩ :: (acc ++ [⟨3, i, i + 1, [], []⟩])) (p := i + 1) ?_ ((HB3.out.trans (Below.drewN (Below.refl b w3) n)).trans hb) ?_
          · rw [HX.out, HXX.out, HST.out, if_pos HG1.out]; simp
          · have := hr; rw [← HTS.out] at this; simpa using this
        · have HG1 := Lib.hid (Bool.eq_false_iff.2 hgt); clear hgt
          by_cases hgt : Lib.hasPrefix (doc.data.toList.drop i) [47, 62] = true
          · have HG2 := Lib.hid hgt; clear hgt
            have hi2 := S.prefix_lt _ _ _ (by simp) HG2.out
            rw [size_list] at hi2
            simp only [List.length_cons, List.length_nil] at hi2
            go_wp2_with fail
            refine (stands_gt b doc i i q (ts1 ++ acc) false _ false HR3.out rfl hs2 HG1.out).mono ?_
            rintro e w4 ⟨rfl, n, rfl⟩
            go_wp2_with fail
            refine (stands_sgt b doc i i q (ts1 ++ acc) false _ true (HR3.out.ext (Below.drewN (Below.refl _ _) n)) rfl hs2 HG2.out).mono ?_
            rintro e w4 ⟨rfl, n2, rfl⟩
            go_wp2_with fail
            refine (tell_any b doc _ _ q 4 _ _ (ts1 ++ acc) false _ (HR3.out.ext (Below.drewN (Below.refl _ _) (n + n2))) (by simp; omega)).mono ?_
            rintro e w5 ⟨rfl, hr, hb⟩
            go_wp2_with fail
            try rw [Exit.noGoto_ret]
            try rw [Exit.noGoto_normal]
            go_end0
            refine step_some (l := ⟨1, p, en, S.part doc.data.toList (p + 1) en, []⟩ :: (acc ++ [⟨4, i, i + 2, [], []⟩])) (p := i + 2) ?_ ((HB3.out.trans (Below.drewN (Below.refl b w3) (n + n2))).trans hb) ?_
            · rw [HX.out, HXX.out, HST.out, if_neg (by rw [HG1.out]; simp), if_pos HG2.out]; simp
            · have := hr; rw [← HTS.out] at this; simpa using this
          · have HG2 := Lib.hid (Bool.eq_false_iff.2 hgt); clear hgt
            go_wp2_with fail
            refine (stands_gt b doc i i q (ts1 ++ acc) false _ false HR3.out rfl hs2 HG1.out).mono ?_
            rintro e w4 ⟨rfl, n, rfl⟩
            go_wp2_with fail
            refine (stands_sgt b doc i i q (ts1 ++ acc) false _ false (HR3.out.ext (Below.drewN (Below.refl _ _) n)) rfl hs2 HG2.out).mono ?_
            rintro e w4 ⟨rfl, n2, rfl⟩
            have HB4 := Lib.hid (HB3.out.trans (Below.drewN (Below.refl b w3) (n + n2)))
            go_wp2_with fail
            refine (attr_any b doc q (ts1 ++ acc) _ (HR3.out.ext (Below.drewN (Below.refl _ _) (n + n2))) hs (by simp; omega) (hG.below HB4.out hb0) hq1).mono ?_
            rintro e w5 ⟨rfl, hb, hm⟩
            have HB5 := Lib.hid (HB4.out.trans hb)
            have HXY : Hid (X = (match S.attr doc.data.toList q with | none => (none : Option (List S.Tok × Nat)) | some (l, q) => (S.attrsF g doc.data.toList q).map fun (x : List S.Tok × Nat) => (l ++ x.1, x.2)).map (fun (y : List S.Tok × Nat) => (acc ++ y.1, y.2))) := Lib.hid (by rw [HXX.out, HST.out, if_neg (by rw [HG1.out]; simp), if_neg (by rw [HG2.out]; simp)])
            have hah := S.attr_hi doc.data.toList q
            generalize S.attr doc.data.toList q = at_ at HXY hm hah
            rcases at_ with _ | ⟨l, q2⟩
            · obtain ⟨at_, ts', hr⟩ := hm
              have HRR := Lib.hid hr; clear hr hah
              go_wp2_with fail
              go_roundg g
              case measure => omega
              case rel => exact ⟨HB5.out, .inr ⟨HXY.out, at_, ts', HRR.out⟩⟩
            · have HRR := Lib.hid hm; clear hm
              obtain ⟨h1, h2, h3⟩ := hah q2 l (by rw [size_list]; omega) rfl
              rw [size_list] at h2
              have H3 := Lib.hid h3; clear h3 hah
              go_wp2_with fail
              go_roundg g
              case measure => omega
              case rel =>
                refine ⟨HB5.out, .inl ⟨q2, acc ++ l, by rw [← List.append_assoc]; exact HRR.out, ?_, h2, by omega, ?_⟩⟩
                · rw [HXY.out]; cases S.attrsF g doc.data.toList q2 <;> simp
                · rw [List.length_append, H3.out]; omega
      · have HXX := Lib.hid hx; clear hx
        have HR := Lib.hid hrd
        obtain ⟨v, hrd⟩ := hrd
        obtain ⟨c0, c1, c2, c3⟩ := hrd.cells
        clear hrd
        go_wp2_with fail
        try rw [Exit.noGoto_ret]
        try rw [Exit.noGoto_normal]
        go_end0
        exact step_none (by rw [HX.out, HXX.out]; rfl) HBW.out HR.out
end Go.Proofs.Ytpfalkdkiffipaa
