/- The lexer's steps: text. -/
import Derived.Test.YtpfalkdkiffipaaL12e
namespace Go.Proofs.Ytpfalkdkiffipaa
open Go.RowKit
set_option maxRecDepth 100000
attribute [local go_sem] byt_at byt_wrap cell_lit
theorem text_end {b p : Nat} {doc : ByteArray} {ts : List S.Tok} {a : S.B} {x : Option (List S.Tok × Nat)} {w w' : World} (hx : x = (S.decode a).map fun v => ([⟨6, p, p + a.length, [], v⟩], p + a.length))
    (h : Rd b doc (p + a.length) (ts ++ [⟨6, p, p + a.length, [], ((S.decode a).getD [])⟩]) (false || (S.decode a).isNone) w') (hb : Below b w w') : StepSaid b doc ts x w (.returned (.tuple #[])) w' := by
  cases hd : S.decode a with
  | none => rw [hd] at hx h; exact step_none hx hb h
  | some v => rw [hd] at hx h; exact step_some hx hb (by simpa using h)
set_option maxHeartbeats 1000000 in
theorem text_any (b : Nat) (doc : ByteArray) (p : Nat) (ts : List S.Tok) (w : World) (h : Rd b doc p ts false w) (hs : doc.size ≤ 1000000) (hn : ts.length ≤ 1000000) (hG : G w)
    (hp : p ≤ doc.size) : Calls Try.prog 35 #[.pointer (some ⟨b, 0, none⟩)] w (StepSaid b doc ts (S.text doc.data.toList p) w) := by
  have H := Lib.hid h; clear h
  go_enter Try.func35, Try.ntmps35
  go_wp2_with fail
  refine (left_any b doc p ts false w H.out (by omega) (by omega)).mono ?_
  rintro e w' ⟨rfl, n, rfl⟩
  go_wp2_with fail
  have hsz : (doc.extract p doc.size).size ≤ 1000000 := by rw [ByteArray.size_extract]; omega
  have HI := Lib.hid (cut_lt (doc.extract p doc.size) (w.drewN n) (by omega) (hG.ext (Below.drewN (Below.refl _ _) n)))
  have HS := Lib.hid (S.text.eq_def doc.data.toList p)
  have hlt : b < w.heap.size := let ⟨_, h⟩ := H.out; lt_of_block h.block
  refine HI.out.mono ?_
  rintro e w' ⟨a, bb, c, hcut, hal, rfl, n2, rfl⟩
  rw [drop_list] at hcut
  rw [hcut.out] at HS
  have ha : a.length ≤ 1000000 := by omega
  clear hal
  have HW := Lib.hid (Below.drewN (Below.refl w.heap.size w) (n + n2))
  have hlt2 : b < (w.drewN (n + n2)).heap.size := hlt
  have hG2 := Lib.hid (hG.ext HW.out)
  obtain ⟨v, hrd⟩ := H.out.ext HW.out
  rw [World.drewN_drewN]
  have hbw : Below b w (w.drewN (n + n2)) := HW.out.mono (Nat.le_of_lt hlt)
  have HBW := Lib.hid hbw
  clear hbw HI H HW hG
  generalize w.drewN (n + n2) = w1 at *
  obtain ⟨c0, c1, c2, c3⟩ := hrd.cells
  have HR := Lib.hid hrd; clear hrd
  go_wp2_with fail
  go_region_with (first
      | (go_at_call 56; refine (decode_any b doc ⟨a.toArray⟩ p ts false _ (by exact ⟨v, HR.out.ext ⟨rfl, rfl, rfl, Nat.le_refl _, fun _ _ => rfl⟩⟩) (by rw [size_mk]; omega) (by exact hG2.out)).mono ?_; rintro e w3 ⟨rfl, hr3, hb3⟩; obtain ⟨v3, hrd3⟩ := hr3; have d1 := hrd3.cells.2.1; have HR3 := Lib.hid hrd3; have HB3 := Lib.hid hb3; clear hrd3 hb3)
      | (go_at_call 52; refine (tell_any b doc _ _ p 6 _ _ ts _ _ (by exact ⟨v3, HR3.out⟩) hn).mono ?_; rintro e w4 ⟨rfl, hr4, hb4⟩; have HR4 := Lib.hid hr4; have HB4 := Lib.hid hb4; clear hr4 hb4))
  all_goals
    go_end0
    have hr4 := HR4.out
    try rw [wrap_in ((p : Int) + a.length) (by omega) (by omega)] at hr4
    exact text_end HS.out hr4 (HBW.out.trans (lit_trans (HB3.out.trans HB4.out) rfl rfl rfl rfl))
end Go.Proofs.Ytpfalkdkiffipaa
