/- The lexer's steps: comment, plain, text, closing. -/
import Derived.Test.YtpfalkdkiffipaaL12d
import Derived.StillTailTactics
import Derived.Deep.RegionHeld3
import Derived.Deep.RegionWith
namespace Go.Proofs.Ytpfalkdkiffipaa
open Go.RowKit
set_option maxRecDepth 100000
attribute [local go_sem] byt_at byt_wrap
theorem cell_lit (w : World) (t : Nat → Question → Nat) (d : Nat) (o : Os) (u : Array (Nat × ByteArray)) (a : Addr) : ({ heap := w.heap, tape := t, drawn := d, os := o, output := u } : World).cell? a = w.cell? a := rfl
attribute [local go_sem] cell_lit
theorem wrap_in (n : Int) (h0 : 0 ≤ n) (h1 : n ≤ 1000000000000) : IntKind.i64.wrap n = n := wraps_i64 n h0 (by omega)
/-- what a step leaves: the pieces behind the others and the place behind them, or that something was wrong -/
def StepSaid (b : Nat) (doc : ByteArray) (ts : List S.Tok) (x : Option (List S.Tok × Nat)) (w : World) (e : Ending) (w' : World) : Prop :=
  e = .returned (.tuple #[]) ∧ Below b w w' ∧ match x with
    | none => ∃ at_ ts', Rd b doc at_ ts' true w'
    | some (l, p) => Rd b doc p (ts ++ l) false w'
theorem step_none {b : Nat} {doc : ByteArray} {ts ts' : List S.Tok} {at_ : Int} {x : Option (List S.Tok × Nat)} {w w' : World} (hx : x = none) (hb : Below b w w') (h : Rd b doc at_ ts' true w') : StepSaid b doc ts x w (.returned (.tuple #[])) w' :=
  ⟨rfl, hb, by rw [hx]; exact ⟨_, _, h⟩⟩
theorem step_some {b : Nat} {doc : ByteArray} {ts l : List S.Tok} {p : Nat} {x : Option (List S.Tok × Nat)} {w w' : World} (hx : x = some (l, p)) (hb : Below b w w') (h : Rd b doc p (ts ++ l) false w') : StepSaid b doc ts x w (.returned (.tuple #[])) w' :=
  ⟨rfl, hb, by rw [hx]; exact h⟩
theorem ext2 (doc : ByteArray) (p k : Nat) (h : p ≤ doc.size) : ((doc.extract p doc.size).extract k (doc.size - p)).data.toList = doc.data.toList.drop (p + k) := by
  have hs : (doc.extract p doc.size).size = doc.size - p := by rw [ByteArray.size_extract]; omega
  rw [← hs, drop_list, drop_list, List.drop_drop]
theorem lit_trans {b : Nat} {w w1 w2 : World} (h : Below b w1 w2) (e1 : w1.heap = w.heap) (e2 : w1.tape = w.tape) (e3 : w1.os = w.os) (e4 : w1.output = w.output) : Below b w w2 :=
  ⟨h.os.trans e3, h.tape.trans e2, h.output.trans e4, by rw [← e1]; exact h.size, fun k hk => by rw [h.block k hk, e1]⟩
theorem index_two (s : ByteArray) (w : World) (hs : s.size ≤ 1000000000) (hG : G w) : Calls Try.prog 50 #[.string s, .string ⟨#[45, 45]⟩] w fun e w' => e = .returned (.int .i64 (Lib.index s.data.toList [45, 45])) ∧ w = w' := by
  obtain ⟨m, hm⟩ := hG
  exact (Try.strings_Index s ⟨#[45, 45]⟩ m w (by omega) hm).mono fun _ _ ⟨a, b⟩ => ⟨a, b.symm⟩
theorem prefix3 (s : ByteArray) (w : World) : Calls Try.prog 48 #[.string s, .string ⟨#[45, 45, 62]⟩] w fun e w' => e = .returned (.bool (Lib.hasPrefix s.data.toList [45, 45, 62])) ∧ w = w' :=
  (Try.strings_HasPrefix s ⟨#[45, 45, 62]⟩ w).mono fun _ _ ⟨a, b⟩ => ⟨a, b.symm⟩
set_option maxHeartbeats 1000000 in
theorem comment_any (b : Nat) (doc : ByteArray) (p : Nat) (ts : List S.Tok) (w : World) (h : Rd b doc p ts false w) (hs : doc.size ≤ 1000000) (hn : ts.length ≤ 1000000) (hG : G w)
    (hp : p + 4 ≤ doc.size) : Calls Try.prog 31 #[.pointer (some ⟨b, 0, none⟩)] w (StepSaid b doc ts (S.comment doc.data.toList p) w) := by
  have H := Lib.hid h; clear h
  go_enter Try.func31, Try.ntmps31
  go_wp2_with fail
  refine (left_any b doc p ts false w H.out (by omega) (by omega)).mono ?_
  rintro e w' ⟨rfl, n, rfl⟩
  go_wp2_with fail
  generalize hbd : (doc.extract p doc.size).extract 4 (doc.size - p) = body
  have hsz0 : body.size = doc.size - p - 4 := by rw [← hbd, ByteArray.size_extract, ByteArray.size_extract]; omega
  have hbl : body.data.toList = doc.data.toList.drop (p + 4) := by rw [← hbd]; exact ext2 doc p 4 (by omega)
  clear hbd
  have hsz : body.size + p + 4 ≤ doc.size := by omega
  have hsz2 : doc.size ≤ body.size + p + 4 := by omega
  clear hsz0
  have HI := Lib.hid (index_two body (w.drewN n) (by omega) (hG.ext (Below.drewN (Below.refl _ _) n)))
  have HS := Lib.hid (S.comment.eq_def doc.data.toList p)
  rw [← hbl] at HS
  have hcs := Lib.index_spec body.data.toList [45, 45]
  have hroom := Lib.index_room body.data.toList [45, 45]
  clear hbl
  have HW := Lib.hid (Below.drewN (Below.refl w.heap.size w) n)
  have HR := Lib.hid (H.out.ext HW.out)
  have hlt : b < w.heap.size := let ⟨_, h⟩ := H.out; lt_of_block h.block
  generalize Lib.index body.data.toList [45, 45] = i at hcs hroom HS HI
  rcases hcs with ⟨rfl, _⟩ | ⟨i, rfl, hi, _⟩
  · refine HI.out.mono ?_
    rintro e w' ⟨rfl, rfl⟩
    go_wp2_with fail
    refine (fails_any b doc p ts false _ HR.out).mono ?_
    rintro e w2 ⟨rfl, hr, hb2⟩
    go_wp2_with fail
    go_end0
    exact step_none (by rw [HS.out]; rfl) ((HW.out.mono (Nat.le_of_lt hlt)).trans hb2) hr
  · have hro := hroom (by omega)
    rw [size_list] at hro
    have hro2 : i + 2 ≤ body.size := by simp at hro; omega
    clear hroom hro
    have hpx := prefix3 (body.extract i body.size)
    rw [drop_list] at hpx
    simp only [Int.toNat_natCast] at HS
    by_cases hpre : Lib.hasPrefix (body.data.toList.drop i) [45, 45, 62] = true
    · have HP := Lib.hid hpre
      rw [hpre] at hpx; clear hpre
      have HPX := Lib.hid hpx; clear hpx
      refine HI.out.mono ?_
      rintro e w' ⟨rfl, rfl⟩
      go_wp2_with fail
      refine (HPX.out _).mono ?_
      rintro e w' ⟨rfl, rfl⟩
      go_wp2_with fail
      obtain ⟨v, hrd⟩ := H.out
      obtain ⟨c0, c1, c2, c3⟩ := hrd.cells
      clear hrd
      go_still_tail 16, (by kernel_rfl)
      go_wp2_with fail
      refine (tell_any b doc _ _ p 7 _ _ ts false _ (by exact H.out.ext ⟨rfl, rfl, rfl, Nat.le_refl _, fun _ _ => rfl⟩) hn).mono ?_
      rintro e w2 ⟨rfl, hr, hb2⟩
      go_wp2_with fail
      go_end0
      rw [take_list] at hr
      refine step_some (l := [⟨7, p, p + 7 + i, [], body.data.toList.take i⟩]) (p := p + 7 + i) ?_ (lit_trans hb2 rfl rfl rfl rfl) ?_
      · rw [HS.out, HP.out, if_neg (by omega)]; rfl
      · rw [show (((p + 7 + i : Nat) : Int)) = p + 4 + i + 3 from by omega, show ((p : Int) + 7 + i) = p + 4 + i + 3 from by omega]; exact hr
    · have HP := Lib.hid (Bool.eq_false_iff.2 hpre); clear hpre
      rw [HP.out] at hpx
      have HPX := Lib.hid hpx; clear hpx
      refine HI.out.mono ?_
      rintro e w' ⟨rfl, rfl⟩
      go_wp2_with fail
      refine (HPX.out _).mono ?_
      rintro e w' ⟨rfl, rfl⟩
      go_wp2_with fail
      refine (fails_any b doc p ts false _ HR.out).mono ?_
      rintro e w2 ⟨rfl, hr, hb2⟩
      go_wp2_with fail
      go_end0
      exact step_none (by rw [HS.out, HP.out, if_neg (by omega)]; rfl) ((HW.out.mono (Nat.le_of_lt hlt)).trans hb2) hr
theorem cut_plain (s : ByteArray) (w : World) (hs : s.size ≤ 1000000000) (hG : G w) : Calls Try.prog 53 #[.string s, .string ⟨#[93, 93, 62]⟩] w fun e w' => ∃ a b c, Hid (Lib.cut s.data.toList [93, 93, 62] = (a, b, c)) ∧ a.length ≤ s.size ∧ e = .returned (.tuple #[.string ⟨a.toArray⟩, .string ⟨b.toArray⟩, .bool c]) ∧ ∃ n, w' = w.drewN n := cutL s [93, 93, 62] w hs hG
theorem cut_lt (s : ByteArray) (w : World) (hs : s.size ≤ 1000000000) (hG : G w) : Calls Try.prog 53 #[.string s, .string ⟨#[60]⟩] w fun e w' => ∃ a b c, Hid (Lib.cut s.data.toList [60] = (a, b, c)) ∧ a.length ≤ s.size ∧ e = .returned (.tuple #[.string ⟨a.toArray⟩, .string ⟨b.toArray⟩, .bool c]) ∧ ∃ n, w' = w.drewN n := cutL s [60] w hs hG
set_option maxHeartbeats 1000000 in
theorem plain_any (b : Nat) (doc : ByteArray) (p : Nat) (ts : List S.Tok) (w : World) (h : Rd b doc p ts false w) (hs : doc.size ≤ 1000000) (hn : ts.length ≤ 1000000) (hG : G w)
    (hp : p + 9 ≤ doc.size) : Calls Try.prog 32 #[.pointer (some ⟨b, 0, none⟩)] w (StepSaid b doc ts (S.plain doc.data.toList p) w) := by
  have H := Lib.hid h; clear h
  go_enter Try.func32, Try.ntmps32
  go_wp2_with fail
  refine (left_any b doc p ts false w H.out (by omega) (by omega)).mono ?_
  rintro e w' ⟨rfl, n, rfl⟩
  go_wp2_with fail
  generalize hbd : (doc.extract p doc.size).extract 9 (doc.size - p) = body
  have hsz0 : body.size = doc.size - p - 9 := by rw [← hbd, ByteArray.size_extract, ByteArray.size_extract]; omega
  have hbl : body.data.toList = doc.data.toList.drop (p + 9) := by rw [← hbd]; exact ext2 doc p 9 (by omega)
  clear hbd
  have hsz : body.size + p + 9 ≤ doc.size := by omega
  have hsz2 : doc.size ≤ body.size + p + 9 := by omega
  clear hsz0
  have HI := Lib.hid (cut_plain body (w.drewN n) (by omega) (hG.ext (Below.drewN (Below.refl _ _) n)))
  have HS := Lib.hid (S.plain.eq_def doc.data.toList p)
  rw [← hbl] at HS
  clear hbl
  have hlt : b < w.heap.size := let ⟨_, h⟩ := H.out; lt_of_block h.block
  refine HI.out.mono ?_
  rintro e w' ⟨a, bb, c, hcut, hal, rfl, n2, rfl⟩
  rw [hcut.out] at HS
  have HW := Lib.hid (Below.drewN (Below.refl w.heap.size w) (n + n2))
  have HR := Lib.hid (H.out.ext HW.out)
  by_cases hc : c = true
  · subst hc
    obtain ⟨v, hrd⟩ := H.out
    obtain ⟨c0, c1, c2, c3⟩ := hrd.cells
    clear hrd
    go_wp2_with fail
    go_still_tail 15, (by kernel_rfl)
    go_wp2_with fail
    refine (tell_any b doc _ _ p 6 _ _ ts false _ (by exact H.out.ext ⟨rfl, rfl, rfl, Nat.le_refl _, fun _ _ => rfl⟩) hn).mono ?_
    rintro e w2 ⟨rfl, hr, hb2⟩
    go_wp2_with fail
    go_end0
    refine step_some (l := [⟨6, p, p + 12 + a.length, [], a⟩]) (p := p + 12 + a.length) ?_ (lit_trans hb2 rfl rfl rfl rfl) ?_
    · rw [HS.out]; rfl
    · rw [show (((p + 12 + a.length : Nat) : Int)) = p + 9 + a.length + 3 from by omega, show ((p : Int) + 12 + a.length) = p + 9 + a.length + 3 from by omega]; exact hr
  · have hc' : c = false := by simpa using hc
    subst hc'
    go_wp2_with fail
    refine (fails_any b doc p ts false _ HR.out).mono ?_
    rintro e w2 ⟨rfl, hr, hb2⟩
    go_wp2_with fail
    go_end0
    exact step_none (by rw [HS.out]; rfl) ((HW.out.mono (Nat.le_of_lt hlt)).trans hb2) hr
end Go.Proofs.Ytpfalkdkiffipaa
