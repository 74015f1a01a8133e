/- The lexer's decode: the walk. -/
import Derived.Test.YtpfalkdkiffipaaL12c
namespace Go.Proofs.Ytpfalkdkiffipaa
open Go.RowKit
set_option maxRecDepth 100000
attribute [local go_sem] byt_at byt_wrap
theorem cut_len (l p : S.B) (h : (Lib.cut l p).2.2 = true) : (Lib.cut l p).1.length + p.length ≤ l.length := by
  unfold Lib.cut at *
  split at h
  · rename_i h0
    have := Lib.index_room l p h0
    rw [if_pos h0]; simp only [List.length_take]; omega
  · simp at h
theorem entity_len (l : S.B) (h : (S.entity l).2 ≠ 0) : (S.entity l).2 ≤ l.length ∧ 3 ≤ (S.entity l).2 ∧ (S.entity l).1.length ≤ 4 := by
  unfold S.entity at *
  split at h
  · simp at h
  · split at h
    · simp at h
    · rename_i h1 h2
      rw [if_neg h1, if_neg h2]
      have h3 := cut_len (l.drop 1) [59] (by simpa using h1)
      simp only [List.length_drop, List.length_cons, List.length_nil] at h3
      refine ⟨by simp only []; omega, ?_, S.body_len _⟩
      simp only []
      rcases hc : (Lib.cut (l.drop 1) [59]).1 with _ | ⟨c, a⟩
      · rw [hc] at h2; exact absurd (by decide) h2
      · simp
theorem ix_cases (l : S.B) (c : UInt8) : Lib.indexByte l c = -1 ∨ ∃ i : Nat, Lib.indexByte l c = i ∧ i < l.length ∧ l.getD i 0 = c := by
  have h := Lib.indexByte_ge l c
  rcases Int.lt_or_le (Lib.indexByte l c) 0 with h0 | h0
  · left; omega
  · right
    obtain ⟨i, hi⟩ := Int.eq_ofNat_of_zero_le h0
    have h2 := (Lib.indexByte_some hi).1
    have h3 := (List.getElem?_eq_some_iff.1 h2).1
    exact ⟨i, hi, h3, by rw [List.getD_eq_getElem?_getD, h2]; rfl⟩
theorem take_list (s : ByteArray) (n : Nat) : (s.extract 0 n).data.toList = s.data.toList.take n := by rw [extract_list]; simp
theorem ix_amp (s : ByteArray) (w : World) : Calls Try.prog 69 #[.string s, .int .u8 38] w fun e w' => e = .returned (.int .i64 (Lib.indexByte s.data.toList 38)) ∧ w = w' :=
  (Try.strings_IndexByte s 38 w).mono fun _ _ ⟨a, b⟩ => ⟨a, b.symm⟩
theorem size_mk (l : List UInt8) : (⟨l.toArray⟩ : ByteArray).size = l.length := by simp [ByteArray.size]
theorem Bld.ext {bb : Nat} {l : S.B} {w w' : World} (h : Bld bb l w) (hb : Below w.heap.size w w') : Bld bb l w' := by
  have key : ∀ p, Lib.BuilderAt 88 5 bb bb p (Lib.byteCells l) w → Lib.BuilderAt 88 5 bb bb p (Lib.byteCells l) w' := by
    rintro p ⟨h0, v, h1, h2, h3⟩
    exact ⟨h0, v, by rw [hb.block bb (lt_of_block h1)]; exact h1, owns_keep h2 fun g _ hg => hb.block g hg, h3⟩
  rcases h with h | h
  · exact .inl (key _ h)
  · exact .inr (key _ h)
/-- what decode leaves: the string, and whether something was wrong -/
def DecSaid (b : Nat) (doc : ByteArray) (at_ : Int) (ts : List S.Tok) (wr : Bool) (l : S.B) (w : World) (e : Ending) (w' : World) : Prop :=
  e = .returned (.string ⟨((S.decode l).getD []).toArray⟩) ∧ Rd b doc at_ ts (wr || (S.decode l).isNone) w' ∧ Below b w w'
theorem dec_some {b : Nat} {doc : ByteArray} {at_ : Int} {ts : List S.Tok} {wr : Bool} {l r : S.B} {w w' : World} (h : Rd b doc at_ ts wr w) (hd : S.decode l = some r) (hb : Below w.heap.size w w') : DecSaid b doc at_ ts wr l w (.returned (.string ⟨r.toArray⟩)) w' := by
  have hlt : b < w.heap.size := let ⟨_, h⟩ := h; lt_of_block h.block
  exact ⟨by rw [hd]; rfl, by rw [hd]; simpa using h.ext hb, hb.mono (by omega)⟩
set_option maxHeartbeats 4000000 in
theorem decode_any (b : Nat) (doc s : ByteArray) (at_ : Int) (ts : List S.Tok) (bd : Bool) (w : World) (h : Rd b doc at_ ts bd w) (hs : s.size ≤ 1000000000) (hG : G w) :
    Calls Try.prog 56 #[.pointer (some ⟨b, 0, none⟩), .string s] w (DecSaid b doc at_ ts bd s.data.toList w) := by
  have hbl : b < w.heap.size := let ⟨_, h⟩ := h; lt_of_block h.block
  have H := Lib.hid h; clear h
  have hf0 := Lib.fresh_isBuilder 88 5 w
  have HF0 := Lib.hid hf0; clear hf0
  go_enter Try.func56, Try.ntmps56
  go_wp2
  go_loopw [1] (fun v wr => ∃ (t : ByteArray) (acc : S.B) (k : Nat), v = .string t ∧ t.size ≤ k ∧ acc.length + 4 * t.size ≤ 4 * s.size ∧ t.size ≤ s.size ∧ S.decode s.data.toList = (S.decodeF k t.data.toList).map (acc ++ ·) ∧ Bld w.heap.size acc wr ∧ Below w.heap.size w wr ∧ w.heap.size < wr.heap.size) (fun v _ => strSize v)
  case atStart =>
    exact ⟨s, [], s.size, rfl, by omega, by simp, by omega, by rw [S.decode, size_list]; simp, HF0.out, (Below.refl _ _).alloc (Nat.le_refl _) _, by simp⟩
  case round =>
    obtain ⟨t, acc, k, rfl, hk, hacc, hts, hd, hbd, hbel, hlt⟩ := hrel
    have HD := Lib.hid hd; clear hd
    have HB := Lib.hid hbd; clear hbd
    have HBE := Lib.hid hbel; clear hbel
    have HG := Lib.hid (hG.ext HBE.out)
    by_cases h0 : 0 < t.size
    · have hne := ne_empty t h0
      have hne1 := ne_list t h0
      have hne2 := ne_list2 t h0
      obtain ⟨k, rfl⟩ : ∃ m, k = m + 1 := ⟨k - 1, by omega⟩
      have HST := Lib.hid (decodeF_step k t.data.toList (ne_nil t h0))
      have hix := ix_amp t wr
      have hcs := ix_cases t.data.toList 38
      generalize Lib.indexByte t.data.toList 38 = i at hix hcs HST
      have HIX := Lib.hid hix; clear hix
      rcases hcs with rfl | ⟨i, rfl, hi, h38⟩
      · have hret : S.decode s.data.toList = some (acc ++ t.data.toList) := by rw [HD.out, HST.out]; rfl
        have HR := Lib.hid hret; clear hret
        go_wp2_with fail
        refine HIX.out.mono ?_
        rintro e w' ⟨rfl, rfl⟩
        go_wp2_with fail
        refine (bld_write w.heap.size acc t wr HB.out (by omega) (by omega)).mono ?_
        rintro e w2 ⟨rfl, hb2, hbe2⟩
        have HB2 := Lib.hid hb2; clear hb2
        have HBE2 := Lib.hid (HBE.out.trans hbe2)
        have hsz2 := hbe2.size
        clear hbe2
        go_wp2_with fail
        refine (bld_string w.heap.size (acc ++ t.data.toList) w2 HB2.out (by omega)).mono ?_
        rintro e w3 ⟨rfl, hbe3⟩
        go_wp2_with fail
        go_ret
        exact dec_some H.out HR.out (HBE2.out.trans hbe3)
      · rw [size_list] at hi
        have H38 := Lib.hid h38; clear h38
        go_wp2_with fail
        refine HIX.out.mono ?_
        rintro e w' ⟨rfl, rfl⟩
        go_wp2_with fail
        refine (bld_write w.heap.size acc (t.extract 0 i) wr HB.out (by omega) (by rw [ByteArray.size_extract]; omega)).mono ?_
        rintro e w2 ⟨rfl, hb2, hbe2⟩
        rw [take_list] at hb2
        have HB2 := Lib.hid hb2; clear hb2
        have HBE2 := Lib.hid (HBE.out.trans hbe2)
        have hsz2 := hbe2.size
        clear hbe2
        go_wp2_with fail
        have hent := entity_any t i w2 (by omega) (by omega) (by omega) (by simpa using H38.out) (hG.ext HBE2.out)
        have hel := entity_len (t.data.toList.drop i)
        rw [show ((i : Int).toNat) = i from by omega] at hent HST
        generalize S.entity (t.data.toList.drop i) = ent at hent hel HST
        obtain ⟨c, n⟩ := ent
        have HE := Lib.hid hent; clear hent
        rw [List.length_drop, size_list] at hel
        have HEL := Lib.hid hel; clear hel
        simp only [] at HST
        have HST2 : Hid (S.decodeF (k + 1) t.data.toList = if n = 0 then none else (S.decodeF k (t.data.toList.drop (i + n))).map fun r => t.data.toList.take i ++ c ++ r) := Lib.hid (by rw [HST.out, if_neg (by omega)])
        by_cases hn : n = 0
        · subst hn
          have HR : Hid (S.decode s.data.toList = none) := Lib.hid (by rw [HD.out, HST2.out]; rfl)
          refine HE.out.mono ?_
          rintro e w3 ⟨rfl, hbe3⟩
          have HBE3 := Lib.hid (HBE2.out.trans (hbe3.mono (by omega)))
          obtain ⟨v, hrd⟩ := H.out.ext HBE3.out
          obtain ⟨c0, c1, c2, c3⟩ := hrd.cells
          have f3 := hrd.free 3
          have HRD := Lib.hid hrd; clear hrd hbe3
          go_wp2_with fail
          go_ret
          refine ⟨by rw [HR.out]; rfl, ?_, ?_⟩
          · rw [HR.out, show (bd || (none : Option S.B).isNone) = true from by simp]
            exact (⟨v, block_set HRD.out.block 3 _, owns_keep HRD.out.own fun g hg _ => Below.heap_setCell _ _ _ _ (by simp; omega)⟩ : Rd b doc at_ ts true (w3.setCell ⟨b, 3, none⟩ (.bool true)))
          · exact (HBE3.out.mono (Nat.le_of_lt hbl)).setCell (p := ⟨b, 3, none⟩) (Nat.le_refl _) _
        · refine HE.out.mono ?_
          rintro e w3 ⟨rfl, hbe3⟩
          have HBE3 := Lib.hid (HBE2.out.trans (hbe3.mono (by omega)))
          have HB3 := Lib.hid (HB2.out.ext hbe3)
          have hsz3 := hbe3.size
          clear hbe3
          obtain ⟨e1, e2, e3⟩ := HEL.out hn
          have e3 : c.length ≤ 4 := e3
          have e1 : n ≤ t.size - i := e1
          have e2 : 3 ≤ n := e2
          go_wp2_with fail
          refine (bld_write w.heap.size (acc ++ t.data.toList.take i) ⟨c.toArray⟩ w3 HB3.out (by omega) ?_).mono ?_
          · have : (t.data.toList.take i).length ≤ i := List.length_take_le _ _
            rw [size_mk, List.length_append]; omega
          rintro e w4 ⟨rfl, hb4, hbe4⟩
          have HB4 := Lib.hid hb4
          have HBE4 := Lib.hid (HBE3.out.trans hbe4)
          have hsz4 := hbe4.size
          clear hb4 hbe4
          go_wp2_with fail
          go_roundw
          case rel =>
            refine ⟨_, _, k, rfl, ?_, ?_, ?_, ?_, HB4.out, HBE4.out, by omega⟩
            · rw [ByteArray.size_extract]; omega
            · have : (t.data.toList.take i).length ≤ i := List.length_take_le _ _
              rw [ByteArray.size_extract]; simp only [List.length_append] at *; omega
            · rw [ByteArray.size_extract]; omega
            · rw [HD.out, HST2.out, if_neg hn, drop_list]; cases S.decodeF k (t.data.toList.drop (i + n)) <;> simp
          case measure => simp only [strSize_string]; rw [ByteArray.size_extract]; omega
    · have hte : t = ByteArray.empty := by apply ByteArray.ext; apply Array.ext'; rw [List.eq_nil_of_length_eq_zero (show t.data.toList.length = 0 by rw [size_list]; omega)]; rfl
      subst hte
      have HR : Hid (S.decode s.data.toList = some acc) := Lib.hid (by rw [HD.out]; cases k <;> simp [S.decodeF])
      go_wp2_with fail
      refine (bld_string w.heap.size acc wr HB.out (by omega)).mono ?_
      rintro e w3 ⟨rfl, hbe3⟩
      go_wp2_with fail
      go_ret
      exact dec_some H.out HR.out (HBE.out.trans hbe3)
end Go.Proofs.Ytpfalkdkiffipaa
