/- What lexer.Lex computes. -/
import Derived.Test.YtpfalkdkiffipaaL12j
namespace Go.Proofs.Ytpfalkdkiffipaa
open Go.RowKit
set_option maxRecDepth 100000
attribute [local go_sem] byt_at byt_wrap cell_lit
/-- what Lex tells: pieces in a row of its own, or an error -/
def LexSaid (l : S.B) (w : World) (e : Ending) (w' : World) : Prop := Below w.heap.size w w' ∧ match S.lex l with
  | .error n => e = .returned (.tuple #[.slice none 0 0, .int .i64 n])
  | .ok ts => ∃ v, e = .returned (.tuple #[v, .int .i64 0]) ∧ w'.ownsRow w.heap.size 35 5 v ts.length (toksCells ts)
theorem lex_err {l : S.B} {n : Int} {w w' : World} (h : S.lex l = .error n) (hb : Below w.heap.size w w') : LexSaid l w (.returned (.tuple #[.slice none 0 0, .int .i64 n])) w' := ⟨hb, by rw [h]⟩
theorem lex_ok {l : S.B} {ts : List S.Tok} {v : Value} {w w' : World} (h : S.lex l = .ok ts) (hb : Below w.heap.size w w') (ho : w'.ownsRow w.heap.size 35 5 v ts.length (toksCells ts)) : LexSaid l w (.returned (.tuple #[v, .int .i64 0])) w' := ⟨hb, by rw [h]; exact ⟨v, rfl, ho⟩⟩
theorem owns_base {w : World} {base base' E size n : Nat} {v : Value} {xs : List Value} (h : w.ownsRow base E size v n xs) (hb : base' ≤ base) : w.ownsRow base' E size v n xs := by
  obtain ⟨h1, h2⟩ := h
  refine ⟨h1, ?_⟩
  rcases h2 with h2 | ⟨g, cap, cur, h3, h4, h5⟩
  · exact .inl h2
  · exact .inr ⟨g, cap, cur, h3, Nat.le_trans hb h4, h5⟩
theorem heap_new (w : World) (o : Obj) : (w.alloc o).heap[w.heap.size]? = some o := Array.getElem?_push_size
theorem lexF_step (k : Nat) (d : S.B) (p : Nat) (h : p < d.length) : S.lexF (k + 1) d p = match S.next d p with | none => none | some (l, q) => (S.lexF k d q).map fun x => l ++ x := by
  rw [S.lexF, if_neg (by omega)]; rfl
/-- the state of the loop over a document -/
def LexLoop (b : Nat) (doc : ByteArray) (x : Option (List S.Tok)) (w : World) (g : Nat) (wr : World) : Prop :=
  Below w.heap.size w wr ∧ ((∃ (q : Nat) (acc : List S.Tok), Rd b doc q acc false wr ∧ x = (S.lexF g doc.data.toList q).map (fun y => acc ++ y) ∧ q ≤ doc.size ∧ doc.size < q + g ∧ acc.length ≤ q) ∨
    (x = none ∧ ∃ at_ ts', Rd b doc at_ ts' true wr))
set_option maxHeartbeats 1000000 in
theorem lex_long (doc : ByteArray) (w : World) (hs : 65536 < doc.size) : Calls Try.prog 11 #[.string doc] w (LexSaid doc.data.toList w) := by
  have HS : Hid (S.lex doc.data.toList = .error 18) := Lib.hid (by unfold S.lex; rw [if_pos (by rw [size_list]; exact hs)])
  go_enter Try.func11, Try.ntmps11
  go_wp2_with fail
  go_ret2
  exact lex_err HS.out (Below.refl _ _)
set_option maxHeartbeats 1000000 in
theorem lex_bad (doc : ByteArray) (w : World) (hs : doc.size ≤ 65536) (hv : S.valid doc.data.toList = false) : Calls Try.prog 11 #[.string doc] w (LexSaid doc.data.toList w) := by
  have HS : Hid (S.lex doc.data.toList = .error 15) := Lib.hid (by unfold S.lex; rw [if_neg (by rw [size_list]; omega), if_pos hv])
  have HV := Lib.hid hv; clear hv
  go_enter Try.func11, Try.ntmps11
  go_wp2_with fail
  refine (valid_any doc w (by omega)).mono ?_
  rintro e w1 ⟨rfl, hb⟩
  rw [HV.out]
  go_wp2_with fail
  go_ret2
  exact lex_err HS.out hb
set_option maxHeartbeats 8000000 in
theorem lex_good (doc : ByteArray) (w : World) (hs : doc.size ≤ 65536) (hv : S.valid doc.data.toList = true) (hG : G w) : Calls Try.prog 11 #[.string doc] w (LexSaid doc.data.toList w) := by
  have HS : Hid (S.lex doc.data.toList = match S.lexF (doc.size + 1) doc.data.toList 0 with | none => .error 15 | some l => .ok l) := Lib.hid (by unfold S.lex; rw [if_neg (by rw [size_list]; omega), if_neg (by rw [hv]; simp), size_list]; rfl)
  have HV := Lib.hid hv; clear hv
  have hxe : ∃ X, X = S.lexF (doc.size + 1) doc.data.toList 0 := ⟨_, rfl⟩
  obtain ⟨X, hX⟩ := hxe
  rw [← hX] at HS
  have HXe := Lib.hid hX; clear hX
  have hG0 := hG.pos
  go_enter Try.func11, Try.ntmps11
  go_wp2_with fail
  refine (valid_any doc w (by omega)).mono ?_
  rintro e w1 ⟨rfl, hb⟩
  rw [HV.out]
  have HB := Lib.hid hb
  have hz := hb.size
  clear hb
  go_wp2
  have hrd0 : Rd w1.heap.size doc 0 [] false (w1.alloc (.cells #[.string doc, .int .i64 0, .slice none 0 0, .bool false] 52)) :=
    ⟨.slice none 0 0, ⟨heap_new w1 _, ⟨rfl, .inl ⟨rfl, rfl⟩⟩⟩⟩
  have HR0 := Lib.hid hrd0; clear hrd0
  go_loopg [5] (doc.size + 1) (fun g _ wr => LexLoop w1.heap.size doc X w g wr)
  case atStart => exact ⟨(HB.out.alloc (by omega) _), .inl ⟨0, [], HR0.out, by rw [HXe.out]; cases S.lexF (doc.size + 1) doc.data.toList 0 <;> simp, by omega, by omega, by simp⟩⟩
  case round =>
    obtain ⟨hbw, hst⟩ := hrel
    have HBW := Lib.hid hbw; clear hbw
    generalize hbb : w1.heap.size = b at *
    clear hbb
    rcases hst with ⟨q, acc, hrd, hx, hq1, hq2, hq3⟩ | ⟨hx, at_, ts', hrd⟩
    · have HXX := Lib.hid hx; clear hx
      have HR := Lib.hid hrd
      have hltr := rd_lt hrd
      obtain ⟨v, hrd⟩ := hrd
      obtain ⟨c0, c1, c2, c3⟩ := hrd.cells
      have HRD := Lib.hid hrd
      clear hrd
      obtain ⟨g, rfl⟩ : ∃ m, gk = m + 1 := ⟨gk - 1, by omega⟩
      by_cases hlt : q < doc.size
      · have HST := Lib.hid (lexF_step g doc.data.toList q (by rw [size_list]; exact hlt))
        have HNH := Lib.hid (S.next_hi doc.data.toList q)
        have hlen : acc.length ≤ 1000000 := by omega
        have hgo : ∀ w4 : World, Below w.heap.size w w4 → ∀ e w5, StepSaid b doc acc (S.next doc.data.toList q) w4 e w5 → e = .returned (.tuple #[]) ∧ LexLoop b doc X w g w5 := by
          rintro w4 hb4 e w5 ⟨rfl, hb5, hm⟩
          refine ⟨rfl, hb4.trans (hb5.mono hz), ?_⟩
          have hxn := HXX.out
          rw [HST.out] at hxn
          have hnh := HNH.out
          generalize S.next doc.data.toList q = nx at hm hxn hnh
          rcases nx with _ | ⟨l, q2⟩
          · exact .inr ⟨by rw [hxn]; rfl, hm⟩
          · obtain ⟨h1, h2, h3⟩ := hnh q2 l (by rw [size_list]; exact hlt) rfl
            rw [size_list] at h2
            refine .inl ⟨q2, acc ++ l, hm, ?_, h2, by omega, by rw [List.length_append]; omega⟩
            rw [hxn]; cases h : S.lexF g doc.data.toList q2 <;> simp [h]
        have HGO := Lib.hid hgo; clear hgo
        have HNX := Lib.hid (S.next.eq_def doc.data.toList q)
        have HGW := Lib.hid (hG.ext HBW.out)
        have hcases : Lib.hasPrefix (doc.data.toList.drop q) [60, 33, 45, 45] = true ∨ (Lib.hasPrefix (doc.data.toList.drop q) [60, 33, 45, 45] = false ∧ Lib.hasPrefix (doc.data.toList.drop q) [60, 33, 91, 67, 68, 65, 84, 65, 91] = true) ∨ (Lib.hasPrefix (doc.data.toList.drop q) [60, 33, 45, 45] = false ∧ Lib.hasPrefix (doc.data.toList.drop q) [60, 33, 91, 67, 68, 65, 84, 65, 91] = false ∧ Lib.hasPrefix (doc.data.toList.drop q) [60, 47] = true) ∨
            (Lib.hasPrefix (doc.data.toList.drop q) [60, 33, 45, 45] = false ∧ Lib.hasPrefix (doc.data.toList.drop q) [60, 33, 91, 67, 68, 65, 84, 65, 91] = false ∧ Lib.hasPrefix (doc.data.toList.drop q) [60, 47] = false ∧ Lib.hasPrefix (doc.data.toList.drop q) [60] = true) ∨
            (Lib.hasPrefix (doc.data.toList.drop q) [60, 33, 45, 45] = false ∧ Lib.hasPrefix (doc.data.toList.drop q) [60, 33, 91, 67, 68, 65, 84, 65, 91] = false ∧ Lib.hasPrefix (doc.data.toList.drop q) [60, 47] = false ∧ Lib.hasPrefix (doc.data.toList.drop q) [60] = false) := by
          cases Lib.hasPrefix (doc.data.toList.drop q) [60, 33, 45, 45] <;> cases Lib.hasPrefix (doc.data.toList.drop q) [60, 33, 91, 67, 68, 65, 84, 65, 91] <;> cases Lib.hasPrefix (doc.data.toList.drop q) [60, 47] <;> cases Lib.hasPrefix (doc.data.toList.drop q) [60] <;> simp
        rcases hcases with p1 | ⟨p1, p2⟩ | ⟨p1, p2, p3⟩ | ⟨p1, p2, p3, p4⟩ | ⟨p1, p2, p3, p4⟩
        · have hstep : S.next doc.data.toList q = S.comment doc.data.toList q := by rw [HNX.out, if_pos p1]
          have hpl2 : q + 4 ≤ doc.size := by have hpl := S.prefix_lt _ _ _ (by simp) p1; rw [size_list] at hpl; simpa using hpl
          have HNK := Lib.hid (next_comment b doc q acc wr HR.out hq1 (.inl p1) (.inr (by omega)) (.inr (by omega)) (.inr (by omega)))
          rw [hstep] at HGO
          clear hstep p1
          go_wp2_with fail
          refine HNK.out.mono ?_
          rintro e w4 ⟨rfl, hb4⟩
          have HB4 := Lib.hid hb4; clear hb4
          go_wp2_with fail
          refine (comment_any b doc q acc w4 (HR.out.ext HB4.out) (by omega) (by omega) (HGW.out.ext HB4.out) hpl2).mono ?_
          intro e w5 hst
          obtain ⟨rfl, hl⟩ := HGO.out w4 (HBW.out.trans (HB4.out.mono (by have := HBW.out.size; omega))) e w5 hst
          have HL := Lib.hid hl; clear hl hst
          go_wp2_with fail
          go_roundg g
          case measure => omega
          case rel => exact HL.out
        · have hstep : S.next doc.data.toList q = S.plain doc.data.toList q := by rw [HNX.out, if_neg (by rw [p1]; simp), if_pos p2]
          have hpl2 : q + 9 ≤ doc.size := by have hpl := S.prefix_lt _ _ _ (by simp) p2; rw [size_list] at hpl; simpa using hpl
          have HNK := Lib.hid (next_plain b doc q acc wr HR.out hq1 (.inl p1) (.inl p2) (.inr (by omega)) (.inr (by omega)))
          rw [hstep] at HGO
          clear hstep p1 p2
          go_wp2_with fail
          refine HNK.out.mono ?_
          rintro e w4 ⟨rfl, hb4⟩
          have HB4 := Lib.hid hb4; clear hb4
          go_wp2_with fail
          refine (plain_any b doc q acc w4 (HR.out.ext HB4.out) (by omega) (by omega) (HGW.out.ext HB4.out) hpl2).mono ?_
          intro e w5 hst
          obtain ⟨rfl, hl⟩ := HGO.out w4 (HBW.out.trans (HB4.out.mono (by have := HBW.out.size; omega))) e w5 hst
          have HL := Lib.hid hl; clear hl hst
          go_wp2_with fail
          go_roundg g
          case measure => omega
          case rel => exact HL.out
        · have hstep : S.next doc.data.toList q = S.closing doc.data.toList q := by rw [HNX.out, if_neg (by rw [p1]; simp), if_neg (by rw [p2]; simp), if_pos p3]
          have hpl2 : q + 2 ≤ doc.size := by have hpl := S.prefix_lt _ _ _ (by simp) p3; rw [size_list] at hpl; simpa using hpl
          have HNK := Lib.hid (next_closing b doc q acc wr HR.out hq1 (.inl p1) (.inl p2) (.inl p3) (.inr (by omega)))
          rw [hstep] at HGO
          clear hstep p1 p2 p3
          go_wp2_with fail
          refine HNK.out.mono ?_
          rintro e w4 ⟨rfl, hb4⟩
          have HB4 := Lib.hid hb4; clear hb4
          go_wp2_with fail
          refine (closing_any b doc q acc w4 (HR.out.ext HB4.out) (by omega) (by omega) hpl2).mono ?_
          intro e w5 hst
          obtain ⟨rfl, hl⟩ := HGO.out w4 (HBW.out.trans (HB4.out.mono (by have := HBW.out.size; omega))) e w5 hst
          have HL := Lib.hid hl; clear hl hst
          go_wp2_with fail
          go_roundg g
          case measure => omega
          case rel => exact HL.out
        · have hstep : S.next doc.data.toList q = S.tag doc.data.toList q := by rw [HNX.out, if_neg (by rw [p1]; simp), if_neg (by rw [p2]; simp), if_neg (by rw [p3]; simp), if_pos p4]
          have hpl2 : q + 1 ≤ doc.size := by have hpl := S.prefix_lt _ _ _ (by simp) p4; rw [size_list] at hpl; simpa using hpl
          have HNK := Lib.hid (next_tag b doc q acc wr HR.out hq1 (.inl p1) (.inl p2) (.inl p3) (.inl p4))
          rw [hstep] at HGO
          clear hstep p1 p2 p3 p4
          go_wp2_with fail
          refine HNK.out.mono ?_
          rintro e w4 ⟨rfl, hb4⟩
          have HB4 := Lib.hid hb4; clear hb4
          go_wp2_with fail
          refine (tag_any b doc q acc w4 (HR.out.ext HB4.out) (by omega) hq3 (HGW.out.ext HB4.out) (by omega) hpl2).mono ?_
          intro e w5 hst
          obtain ⟨rfl, hl⟩ := HGO.out w4 (HBW.out.trans (HB4.out.mono (by have := HBW.out.size; omega))) e w5 hst
          have HL := Lib.hid hl; clear hl hst
          go_wp2_with fail
          go_roundg g
          case measure => omega
          case rel => exact HL.out
        · have hstep : S.next doc.data.toList q = S.text doc.data.toList q := by rw [HNX.out, if_neg (by rw [p1]; simp), if_neg (by rw [p2]; simp), if_neg (by rw [p3]; simp), if_neg (by rw [p4]; simp)]
          have hpl2 : q ≤ doc.size := hq1
          have HNK := Lib.hid (next_text b doc q acc wr HR.out hq1 (.inl p1) (.inl p2) (.inl p3) (.inl p4))
          rw [hstep] at HGO
          clear hstep p1 p2 p3 p4
          go_wp2_with fail
          refine HNK.out.mono ?_
          rintro e w4 ⟨rfl, hb4⟩
          have HB4 := Lib.hid hb4; clear hb4
          go_wp2_with fail
          refine (text_any b doc q acc w4 (HR.out.ext HB4.out) (by omega) (by omega) (HGW.out.ext HB4.out) hpl2).mono ?_
          intro e w5 hst
          obtain ⟨rfl, hl⟩ := HGO.out w4 (HBW.out.trans (HB4.out.mono (by have := HBW.out.size; omega))) e w5 hst
          have HL := Lib.hid hl; clear hl hst
          go_wp2_with fail
          go_roundg g
          case measure => omega
          case rel => exact HL.out
      · have hqe : doc.size ≤ q := by omega
        have hX : X = some acc := by rw [HXX.out, S.lexF, if_pos (by rw [size_list]; exact hqe)]; simp
        have HXs := Lib.hid hX; clear hX
        go_wp2_with fail
        go_ret2
        refine lex_ok (by rw [HS.out, HXs.out]) HBW.out ?_
        exact owns_base HRD.out.own (by omega)
    · have HXX := Lib.hid hx; clear hx
      obtain ⟨v, hrd⟩ := hrd
      obtain ⟨c0, c1, c2, c3⟩ := hrd.cells
      clear hrd
      by_cases hlt : at_ < (doc.size : Int)
      all_goals
        go_wp2_with fail
        go_ret2
        exact lex_err (by rw [HS.out, HXX.out]) HBW.out
theorem lex_any (doc : ByteArray) (w : World) (hG : G w) : Calls Try.prog 11 #[.string doc] w (LexSaid doc.data.toList w) := by
  by_cases hs : doc.size ≤ 65536
  · by_cases hv : S.valid doc.data.toList = true
    · exact lex_good doc w hs hv hG
    · exact lex_bad doc w hs (by simpa using hv)
  · exact lex_long doc w (by omega)
end Go.Proofs.Ytpfalkdkiffipaa
