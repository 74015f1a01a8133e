/- What parser.Parse computes. -/
import Derived.Test.YtpfalkdkiffipaaP13e
import Derived.Test.YtpfalkdkiffipaaP13m
namespace Go.Proofs.Ytpfalkdkiffipaa
open Go.RowKit
set_option maxRecDepth 100000
theorem frozen_lit (w : World) (t : Nat → Question → Nat) (d : Nat) (o : Os) (u : Array (Nat × ByteArray)) (a : Addr) : ({ heap := w.heap, tape := t, drawn := d, os := o, output := u } : World).frozen? a = w.frozen? a := rfl
attribute [local go_sem] byt_at byt_wrap cell_lit frozen_lit
/-- what Parse tells: a tree in rows of its own, or an error -/
def ParseSaid (l : S.B) (w : World) (e : Ending) (w' : World) : Prop := Below w.heap.size w w' ∧ match S.parse l with
  | .error n => e = .returned (.tuple #[.agg #[.slice none 0 0, .slice none 0 0], .int .i64 n])
  | .ok (ks, ns) => ∃ vk vn, e = .returned (.tuple #[.agg #[vk, vn], .int .i64 0]) ∧ w'.ownsRow w.heap.size 9 1 vk ks.length (strs ks) ∧ w'.ownsRow w.heap.size 44 4 vn ns.length (nodesCells ns) ∧ Apart vk vn
theorem toks_at : ∀ (l : List S.Tok) (k j : Nat), j < 5 → (toksCells l)[k * 5 + j]? = (l[k]?).bind fun n => (tokCells n)[j]?
  | [], k, j, _ => by simp [toksCells]
  | n :: l, 0, j, hj => by
    show (tokCells n ++ toksCells l)[0 * 5 + j]? = _
    rw [List.getElem?_append_left (by simp [tokCells]; omega)]; simp
  | n :: l, k + 1, j, hj => by
    show (tokCells n ++ toksCells l)[(k + 1) * 5 + j]? = _
    have h5 : (tokCells n).length = 5 := rfl
    rw [List.getElem?_append_right (by rw [h5]; omega), h5, show (k + 1) * 5 + j - 5 = k * 5 + j from by omega, toks_at l k j hj]; simp
/-- a row of pieces: how its slice looks, its cells -/
theorem row_toks {w : World} {base n : Nat} {v : Value} {l : List S.Tok} (h : w.ownsRow base 35 5 v n (toksCells l)) (hn : n = l.length) (h0 : 0 < n) :
    ∃ g cap, v = .slice (some ⟨g, 0, none⟩) n cap ∧ n ≤ cap ∧ base ≤ g ∧ g < w.heap.size ∧ ∀ (k : Nat) (x : S.Tok), l[k]? = some x → w.cell? ⟨g, k * 5, none⟩ = some (.int .i64 x.kind) ∧ w.cell? ⟨g, k * 5 + 1, none⟩ = some (.int .i64 x.from_) ∧ w.cell? ⟨g, k * 5 + 2, none⟩ = some (.int .i64 x.to_) ∧ w.cell? ⟨g, k * 5 + 3, none⟩ = some (.string ⟨x.name.toArray⟩) ∧ w.cell? ⟨g, k * 5 + 4, none⟩ = some (.string ⟨x.value.toArray⟩) := by
  obtain ⟨h1, h2⟩ := h
  rcases h2 with ⟨rfl, hz⟩ | ⟨g, cap, cur, rfl, hg, hb, hc, hm, hz, ht⟩
  · omega
  · refine ⟨g, cap, rfl, hc, hg, lt_of_block hb, fun k x hk => ?_⟩
    have hlt : k < l.length := (List.getElem?_eq_some_iff.1 hk).1
    have key : ∀ j, j < 5 → w.cell? ⟨g, k * 5 + j, none⟩ = (tokCells x)[j]? := fun j hj => by
      rw [block_cell hb]
      have e : cur[k * 5 + j]? = (toksCells l)[k * 5 + j]? := by
        rw [← ht, List.getElem?_take_of_lt (by omega)]; simp
      rw [e, toks_at l k j hj, hk]; rfl
    exact ⟨key 0 (by omega), key 1 (by omega), key 2 (by omega), key 3 (by omega), key 4 (by omega)⟩
theorem parse_err {l : S.B} {n : Int} {w w' : World} (h : S.parse l = .error n) (hb : Below w.heap.size w w') : ParseSaid l w (.returned (.tuple #[.agg #[.slice none 0 0, .slice none 0 0], .int .i64 n])) w' := ⟨hb, by rw [h]⟩
theorem bd_new (w : World) : Bd w.heap.size S.St.new (w.alloc (.cells #[.slice none 0 0, .slice none 0 0, .slice none 0 0, .string ⟨#[]⟩, .bool false, .bool false] 57)) :=
  ⟨.slice none 0 0, .slice none 0 0, .slice none 0 0, ⟨heap_new w _, ⟨rfl, .inl ⟨rfl, rfl⟩⟩, ⟨rfl, .inl ⟨rfl, rfl⟩⟩, ⟨rfl, .inl ⟨rfl, rfl⟩⟩, fun g hg => by simp [Value.ownBlock] at hg, fun g hg => by simp [Value.ownBlock] at hg, fun g hg => by simp [Value.ownBlock] at hg⟩⟩
/-- the state of the loop over the pieces -/
structure ParseLoop (n b : Nat) (ts : List S.Tok) (W : World) (k : Nat) (wr : World) : Prop where
  le : k ≤ ts.length
  below : Below b W wr
  bd : Bd b ((ts.take k).foldl S.St.step S.St.new) wr
  inv : ∃ tag, S.wf tag ((ts.drop k).map S.Tok.pc) ∧ S.Inv n tag k ((ts.drop k).map S.Tok.pc) ((ts.take k).foldl S.St.step S.St.new)
theorem lex_ok_lx (d : S.B) (ts : List S.Tok) (h : S.lex d = .ok ts) : d.length ≤ 65536 ∧ S.lx d = some (ts.map S.Tok.pc) := by
  unfold S.lex at h
  split at h; · simp at h
  split at h; · simp at h
  rename_i h1 h2
  rw [← S.lex_L]
  cases hx : S.lexF (d.length + 1) d 0 with
  | none => rw [hx] at h; simp at h
  | some l => rw [hx] at h; simp only [Except.ok.injEq] at h; subst h; exact ⟨by omega, rfl⟩
theorem fold_take (ts : List S.Tok) (k : Nat) (t : S.Tok) (h : ts[k]? = some t) : (ts.take (k + 1)).foldl S.St.step S.St.new = ((ts.take k).foldl S.St.step S.St.new).step t := by
  rw [List.take_add_one, h, List.foldl_append]; rfl
theorem ParseLoop.next {n b : Nat} {ts : List S.Tok} {W wr w5 : World} {k : Nat} {t : S.Tok} (h : ParseLoop n b ts W k wr) (ht : ts[k]? = some t) (hf : S.FitsP n (ts.map S.Tok.pc)) (hb : Below b wr w5) (hbd : Bd b (((ts.take k).foldl S.St.step S.St.new).step t) w5) : ParseLoop n b ts W (k + 1) w5 := by
  have hlt := (List.getElem?_eq_some_iff.1 ht).1
  have hd : ts.drop k = t :: ts.drop (k + 1) := by rw [List.drop_eq_getElem_cons hlt]; congr 1; exact (List.getElem?_eq_some_iff.1 ht).2
  refine ⟨by omega, h.below.trans hb, by rw [fold_take ts k t ht]; exact hbd, ?_⟩
  obtain ⟨tag, hw, hinv⟩ := h.inv
  rw [hd, List.map_cons] at hw hinv
  rw [fold_take ts k t ht]
  exact hinv.step hw (hf t.pc (List.mem_map.2 ⟨t, List.mem_of_getElem? ht, rfl⟩)).1
theorem cat_bytes (a c : S.B) : (⟨a.toArray⟩ : ByteArray) ++ (⟨c.toArray⟩ : ByteArray) = ⟨(a ++ c).toArray⟩ := by
  apply ByteArray.ext; simp
theorem flush_len (s : S.St) : s.flush.nodes.length ≤ s.nodes.length + 1 ∧ s.flush.names.length ≤ s.names.length + 1 := by
  unfold S.St.flush
  split
  · exact ⟨by simp only []; omega, by simp only []; omega⟩
  split
  · exact ⟨by simp only []; omega, by simp only []; omega⟩
  · simp [S.St.put]
theorem mid_top {n k : Nat} {s : S.St} (h : S.Mid n k s) : s.top < s.nodes.length ∧ (s.opn ≠ [] → 0 ≤ s.top) := by
  by_cases h0 : s.opn = []
  · rw [S.top_none s h0]; exact ⟨by omega, fun h => absurd h0 h⟩
  · have := h.opn _ (S.top_mem s h0); exact ⟨by omega, fun _ => by omega⟩
theorem parse_results {T : Nat} {tmps : Array Value} {w : World} {v0 v1 : Value} (h2 : tmps.getD 2 undef = .pointer (some ⟨T, 0, none⟩)) (h0 : w.cell? ⟨T, 0, none⟩ = some v0) (h1 : w.cell? ⟨T, 1, none⟩ = some v1) :
    (results Try.f14 tmps).run Try.prog w = .ok (.tuple #[.agg #[v0, v1], tmps.getD 3 undef]) w := by
  simp only [Array.getD_eq_getD_getElem?] at h2
  simp [results, Try.results14, go_sem, h2, h0, h1]
set_option maxHeartbeats 16000000 in
theorem parse_any (doc : ByteArray) (w : World) (hG : G w) : Calls Try.prog 14 #[.string doc] w (ParseSaid doc.data.toList w) := by
  have HS := Lib.hid (S.parse.eq_def doc.data.toList)
  go_enter Try.func14, Try.ntmps14
  go_wp2_with fail
  go_step3
  go_wp2_with fail
  refine (lex_any doc _ (hG.ext ((Below.refl _ _).alloc (Nat.le_refl _) _))).mono ?_
  rintro e w1 ⟨hb1, hlex⟩
  cases hl : S.lex doc.data.toList with
  | error n =>
    rw [hl] at hlex HS
    simp only [] at hlex HS
    subst hlex
    have hT : w1.heap[w.heap.size]? = some (.cells #[.slice none 0 0, .slice none 0 0] 39 (0, 0)) := (hb1.block w.heap.size (by simp)).trans (heap_new w _)
    have hbw : Below w.heap.size w w1 := ((Below.refl _ _).alloc (Nat.le_refl _) _).trans (hb1.mono (by simp))
    have HBW := Lib.hid hbw
    have t0 : w1.cell? ⟨w.heap.size, 0, none⟩ = some (.slice none 0 0) := block_cell hT 0
    have t1 : w1.cell? ⟨w.heap.size, 1, none⟩ = some (.slice none 0 0) := block_cell hT 1
    have ft0 : w1.frozen? ⟨w.heap.size, 0, none⟩ = false := block_free hT 0
    have ft1 : w1.frozen? ⟨w.heap.size, 1, none⟩ = false := block_free hT 1
    have HL := Lib.hid hl
    have hn0 : n ≠ 0 := by
      intro e
      subst e
      unfold S.lex at hl
      split at hl; · simp at hl
      split at hl; · simp at hl
      split at hl <;> simp at hl
    clear hb1 hbw hl
    go_wp2_with fail
    try rw [Exit.noGoto_ret]
    refine bodyPost_ret (parse_results rfl (two_cells hT).1 (two_cells hT).2) rfl ?_
    exact parse_err (by rw [HS.out]) (HBW.out.trans (two_below _ _ _ _ _ (Nat.le_refl _)))
  | ok ts =>
    rw [hl] at hlex HS
    simp only [] at hlex HS
    obtain ⟨v, rfl, hown⟩ := hlex
    obtain ⟨av, capv, rfl⟩ := row_form hown
    obtain ⟨hlen, hlx⟩ := lex_ok_lx _ _ hl
    obtain ⟨hfit, hfew⟩ := S.lx_fits _ _ hlx
    have hwf := S.lx_wf _ _ hlx
    have hvals := S.lx_vals _ _ hlx
    rw [size_list] at hlen hfit hfew hvals
    rw [List.length_map] at hfew
    have HFIT := Lib.hid hfit
    have HOWN := Lib.hid hown
    have hT : w1.heap[w.heap.size]? = some (.cells #[.slice none 0 0, .slice none 0 0] 39 (0, 0)) := (hb1.block w.heap.size (by simp)).trans (heap_new w _)
    have hz1 : w.heap.size < w1.heap.size := by have := hb1.size; simp at this; omega
    have hbw : Below w.heap.size w w1 := ((Below.refl _ _).alloc (Nat.le_refl _) _).trans (hb1.mono (by simp))
    have HBW := Lib.hid hbw
    have hstart : ParseLoop doc.size w1.heap.size ts w1 0 (w1.alloc (.cells #[.slice none 0 0, .slice none 0 0, .slice none 0 0, .string ⟨#[]⟩, .bool false, .bool false] 57)) :=
      ⟨Nat.zero_le _, (Below.refl _ _).alloc (Nat.le_refl _) _, bd_new w1, false, hwf, S.Inv.new _ _ hvals⟩
    have HST := Lib.hid hstart
    clear hown hfit hwf hvals hb1 hbw hstart hlx hl
    have htl : (ts.length : Int) ≤ 9223372036854775807 := by omega
    go_wp2_with fail
    go_step3
    go_wp2_with fail
    go_loopw [22] (fun i wr => ∃ k : Nat, i = .int .i64 k ∧ ParseLoop doc.size w1.heap.size ts w1 k wr) (fun i _ => ts.length - (intOf i).toNat)
    case atStart => exact ⟨0, rfl, HST.out⟩
    case round =>
      obtain ⟨k, rfl, hpl⟩ := hrel
      have HPL := Lib.hid hpl
      have hkl := hpl.le
      clear hpl
      generalize hbb : w1.heap.size = b at *
      by_cases hlt : k < ts.length
      · obtain ⟨gt, ct, he, hcap, hg1, hg2, hcell⟩ := row_toks HOWN.out rfl (by omega)
        simp only [Value.slice.injEq] at he
        obtain ⟨rfl, -, rfl⟩ := he
        have hk0 : (0 : Int) ≤ (k : Int) := by omega
        have hk1 : (k : Int) < (ts.length : Int) := by omega
        obtain ⟨t, ht⟩ : ∃ t, ts[k]? = some t := ⟨_, List.getElem?_eq_getElem hlt⟩
        obtain ⟨m0, m1, m2, m3, m4⟩ := hcell k t ht
        have hbel := HPL.out.below
        have a0 := (hbel.cell (p := ⟨gt, k * 5, none⟩) (by show gt < b; omega)).trans m0
        have a1 := (hbel.cell (p := ⟨gt, k * 5 + 1, none⟩) (by show gt < b; omega)).trans m1
        have a2 := (hbel.cell (p := ⟨gt, k * 5 + 2, none⟩) (by show gt < b; omega)).trans m2
        have a3 := (hbel.cell (p := ⟨gt, k * 5 + 3, none⟩) (by show gt < b; omega)).trans m3
        have a4 := (hbel.cell (p := ⟨gt, k * 5 + 4, none⟩) (by show gt < b; omega)).trans m4
        clear hcell m0 m1 m2 m3 m4 hbel
        have hbd := HPL.out.bd
        obtain ⟨tag, hwf, hinv⟩ := HPL.out.inv
        have hdrop : ts.drop k = t :: ts.drop (k + 1) := by rw [List.drop_eq_getElem_cons hlt]; congr 1; exact (List.getElem?_eq_some_iff.1 ht).2
        rw [hdrop, List.map_cons] at hwf hinv
        obtain ⟨hmid, hfo⟩ := hinv.flush
        have hNX : ∀ w5, Below b wr w5 → Bd b (((ts.take k).foldl S.St.step S.St.new).step t) w5 → ParseLoop doc.size b ts w1 (k + 1) w5 := fun w5 h1 h2 => HPL.out.next ht HFIT.out h1 h2
        have HNX := Lib.hid hNX; clear hNX
        generalize (ts.take k).foldl S.St.step S.St.new = s at *
        obtain ⟨tk, tf, tt, tn, tv⟩ := t
        have s1 : s.text.length ≤ 300000 := by have := hinv.text; omega
        have s2 : s.opn.length ≤ 100000 := by have := hinv.low; omega
        have s3 : s.nodes.length ≤ 200000 := by have := hinv.few; omega
        have s4 : s.names.length = s.nodes.length := hinv.names
        have hbo : ∀ o : Obj, Bd b s (wr.alloc o) := fun o => hbd.ext ((Below.refl _ _).alloc (Nat.le_refl _) _)
        have hbw' : ∀ o : Obj, Below b wr (wr.alloc o) := fun o => (Below.refl _ _).alloc (Nat.le_of_lt hbd.lt) o
        have HBO := Lib.hid (And.intro hbo hbw')
        have HINV := Lib.hid hinv
        have HMID := Lib.hid hmid
        have HWF := Lib.hid hwf
        clear hbo hbw' hinv hmid hwf hdrop hbd
        simp only [] at a0 a1 a2 a3 a4
        have hkinds : tk = 7 ∨ tk = 6 ∨ tk = 1 ∨ tk = 2 ∨ tk = 3 ∨ tk = 4 ∨ tk = 5 := by
          rcases HWF.out with ⟨_, h, _⟩ | ⟨_, h, _⟩ | ⟨_, h, _⟩ | ⟨_, h, _⟩ <;> simp only [S.Tok.pc] at h <;> omega
        have hfl := flush_len s
        obtain ⟨ht1, ht2⟩ := mid_top HMID.out
        have hfn := HMID.out.names
        have hcell3 : ∀ o : Obj, ∃ vn vm vo, BdAt b s vn vm vo (wr.alloc o) := HBO.out.1
        rcases hkinds with rfl | rfl | rfl | rfl | rfl | rfl | rfl
        · go_wp2_with fail
          try rw [Exit.noGoto_normal]
          go_roundw
          case rel => exact ⟨k + 1, by simp, HNX.out _ (HBO.out.2 _) (HBO.out.1 _)⟩
          case measure => simp [intOf]; omega
        · generalize hO : (Obj.cells #[.int .i64 6, .int .i64 tf, .int .i64 tt, .string ⟨tn.toArray⟩, .string ⟨tv.toArray⟩] 35) = O
          obtain ⟨vn, vm, vo, hb⟩ := HBO.out.1 (.cells #[.int .i64 6, .int .i64 tf, .int .i64 tt, .string ⟨tn.toArray⟩, .string ⟨tv.toArray⟩] 35)
          have c3 := hb.cells.2.2.2.1
          have f3 := block_free hb.block 3
          have HB := Lib.hid ((hb.ext (Below.drew (Below.refl _ _))).put_text (s.text ++ tv))
          clear hb hO
          have hv6 : tv.length ≤ 300000 := by have := HINV.out.text; simp only [S.vals, S.Tok.pc] at this; omega
          have hadd := fun W2 : World => run_string_add_sum (P := Try.prog) W2 (⟨s.text.toArray⟩ : ByteArray) (⟨tv.toArray⟩ : ByteArray) (by rw [size_mk, size_mk]; omega)
          go_wp2_with fail
          go_still_tail 9, (by kernel_rfl)
          go_wp2_with fail
          rw [cat_bytes]
          go_roundw
          case rel => exact ⟨k + 1, by simp, HNX.out _ ((HBO.out.2 _).trans ((Below.drew (Below.refl b _)).trans (set_below b 3 _ _))) ⟨_, _, _, HB.out⟩⟩
          case measure => simp [intOf]; omega
        · go_wp2_with fail
          refine (begin_any b s ⟨tn.toArray⟩ _ (HBO.out.1 _) (by omega) (by omega) (by omega) (by omega) hfo hfl.1 hfl.2).mono ?_
          rintro e w5 ⟨rfl, hbd5, hb5⟩
          go_wp2_with fail
          try rw [Exit.noGoto_normal]
          go_roundw
          case rel => exact ⟨k + 1, by simp, HNX.out _ ((HBO.out.2 _).trans hb5) hbd5⟩
          case measure => simp [intOf]; omega
        · have htag : s.opn ≠ [] := by
            rcases HWF.out with ⟨_, h, _⟩ | ⟨_, h, _⟩ | ⟨ht, h, _⟩ | ⟨_, h, _⟩
            · simp [S.Tok.pc] at h
            · simp [S.Tok.pc] at h
            · exact HINV.out.tag ht
            · simp [S.Tok.pc] at h
          have hp0 := HINV.out.top_pos htag
          have hp1 := HINV.out.top.2
          go_wp2_with fail
          refine (battr_any b s ⟨tn.toArray⟩ ⟨tv.toArray⟩ _ (HBO.out.1 _) (by omega) (by omega) s4 hp0 hp1).mono ?_
          rintro e w5 ⟨rfl, hbd5, hb5⟩
          go_wp2_with fail
          try rw [Exit.noGoto_normal]
          go_roundw
          case rel => exact ⟨k + 1, by simp, HNX.out _ ((HBO.out.2 _).trans hb5) hbd5⟩
          case measure => simp [intOf]; omega
        · go_wp2_with fail
          try rw [Exit.noGoto_normal]
          go_roundw
          case rel => exact ⟨k + 1, by simp, HNX.out _ (HBO.out.2 _) (HBO.out.1 _)⟩
          case measure => simp [intOf]; omega
        · have htag : s.opn ≠ [] := by
            rcases HWF.out with ⟨_, h, _⟩ | ⟨_, h, _⟩ | ⟨ht, h, _⟩ | ⟨ht, h, _⟩
            · simp [S.Tok.pc] at h
            · simp [S.Tok.pc] at h
            · simp [S.Tok.pc] at h
            · exact HINV.out.tag ht
          have hp0 := HINV.out.top_pos htag
          have hp1 := HINV.out.top.2
          obtain ⟨q, hq⟩ := Int.eq_ofNat_of_zero_le hp0
          obtain ⟨vn, vm, vo, hb⟩ := HBO.out.1 (.cells #[.int .i64 4, .int .i64 tf, .int .i64 tt, .string ⟨tn.toArray⟩, .string ⟨tv.toArray⟩] 35)
          have c1 := hb.cells.2.1
          obtain ⟨gn, cn, rfl, hcn⟩ := row_name hb.names rfl q (by omega)
          have hq0 : (0 : Int) ≤ (q : Int) := by omega
          have hq1 : (q : Int) < (s.names.length : Int) := by omega
          have hstep : s.step ⟨4, tf, tt, tn, tv⟩ = s.end_ (s.names.getD q []) := by
            show s.end_ (s.names.getD s.top.toNat []) = _
            rw [hq]; rfl
          have HSTEP := Lib.hid hstep
          have HB := Lib.hid hb
          clear hb hstep
          generalize s.names.getD q [] = x at *
          go_wp2_with fail
          go_region_with (first
            | (go_at_call 23; refine (top_any b s _ ?_ (by omega)).mono ?_; (first | exact ⟨_, _, _, HB.out⟩ | exact ⟨_, _, _, HB.out.ext (Below.drewN (Below.refl _ _) _)⟩); rintro e w' ⟨rfl, nn, rfl⟩; rw [hq])
            | (go_at_call 22; refine (bend_any b s ⟨x.toArray⟩ _ ?_ (by omega) (by omega) (by omega) (by omega) hfo hfn hfl.1 ht1 ht2).mono ?_; exact ⟨_, _, _, HB.out.ext (Below.drewN (Below.refl _ _) _)⟩; rintro e w5 ⟨rfl, hbd5, hb5⟩))
          all_goals
            have hb6 := (HBO.out.2 _).trans ((Below.drewN (Below.refl b _) _).trans hb5)
            go_wp2_with fail
            try rw [Exit.noGoto_normal]
            go_roundw
            case rel => exact ⟨k + 1, by simp, HNX.out _ hb6 (by rw [HSTEP.out]; exact hbd5)⟩
            case measure => simp [intOf]; omega
        · go_wp2_with fail
          refine (bend_any b s ⟨tn.toArray⟩ _ (HBO.out.1 _) (by omega) (by omega) (by omega) (by omega) hfo hfn hfl.1 ht1 ht2).mono ?_
          rintro e w5 ⟨rfl, hbd5, hb5⟩
          go_wp2_with fail
          try rw [Exit.noGoto_normal]
          go_roundw
          case rel => exact ⟨k + 1, by simp, HNX.out _ ((HBO.out.2 _).trans hb5) hbd5⟩
          case measure => simp [intOf]; omega
      · have hke : k = ts.length := by omega
        subst hke
        have hbd := HPL.out.bd
        obtain ⟨tag, _, hinv⟩ := HPL.out.inv
        rw [List.take_length] at hbd hinv
        obtain ⟨hmid, hfo⟩ := hinv.flush
        generalize ts.foldl S.St.step S.St.new = s at *
        have s1 : s.text.length ≤ 300000 := by have := hinv.text; omega
        have s2 : s.opn.length ≤ 100000 := by have := hinv.low; omega
        have s3 : s.nodes.length ≤ 200000 := by have := hinv.few; omega
        have s4 : s.names.length = s.nodes.length := hinv.names
        have hfl := flush_len s
        have hq1 : ∀ x ∈ s.flush.names, x.length ≤ 1000000000 := fun x hx => by have := hmid.name x hx; omega
        have HQ := Lib.hid hq1
        have s5 := hmid.names
        have HBD := Lib.hid hbd
        have HBL := Lib.hid HPL.out.below
        clear hinv hmid hbd hq1
        go_wp2_with fail
        refine (flush_any b s wr HBD.out (by omega) (by omega) (by omega) (by omega)).mono ?_
        rintro e w5 ⟨rfl, hbd5, hb5⟩
        have HBD5 := Lib.hid hbd5
        have HB5 := Lib.hid (HBL.out.trans hb5)
        clear hbd5 hb5
        go_wp2_with fail
        refine (tree_any b s.flush w5 HBD5.out s5 (by omega) (by rw [hfo]; omega) HQ.out).mono ?_
        rintro e w6 ⟨hb6, htree⟩
        have hbb6 := HB5.out.trans hb6
        have hT6 := (hbb6.block w.heap.size hz1).trans hT
        have t0 : w6.cell? ⟨w.heap.size, 0, none⟩ = some (.slice none 0 0) := block_cell hT6 0
        have t1 : w6.cell? ⟨w.heap.size, 1, none⟩ = some (.slice none 0 0) := block_cell hT6 1
        have ft0 : w6.frozen? ⟨w.heap.size, 0, none⟩ = false := block_free hT6 0
        have ft1 : w6.frozen? ⟨w.heap.size, 1, none⟩ = false := block_free hT6 1
        have HB6 := Lib.hid (HBW.out.trans (hbb6.mono (Nat.le_of_lt hz1)))
        clear hbb6 hb6
        cases htr : s.flush.tree with
        | error n =>
          rw [htr] at htree HS
          simp only [] at htree
          subst htree
          go_wp2_with fail
          try rw [Exit.noGoto_ret]
          refine bodyPost_ret (parse_results rfl (two_cells hT6).1 (two_cells hT6).2) rfl ?_
          exact parse_err HS.out (HB6.out.trans (two_below _ _ _ _ _ (Nat.le_refl _)))
        | ok kn =>
          obtain ⟨ks, ns⟩ := kn
          rw [htr] at htree HS
          simp only [] at htree
          obtain ⟨vk, vn, rfl, ho1, ho2, hap⟩ := htree
          obtain ⟨ak, ck, rfl⟩ := row_form ho1
          obtain ⟨an, cn, rfl⟩ := row_form ho2
          have HO := Lib.hid (And.intro ho1 (And.intro ho2 hap))
          clear ho1 ho2 hap
          go_wp2_with fail
          try rw [Exit.noGoto_ret]
          refine bodyPost_ret (parse_results rfl (two_cells hT6).1 (two_cells hT6).2) rfl ?_
          obtain ⟨ho1, ho2, hap⟩ := HO.out
          have hk1 : (Value.slice ak ks.length ck).ownBlock = none ∨ (Value.slice ak ks.length ck).ownBlock ≠ some w.heap.size := by
            rcases hob : (Value.slice ak ks.length ck).ownBlock with _ | j
            · exact .inl rfl
            · right; have := (ho1.lt j hob).1; simp; omega
          have hn1 : (Value.slice an ns.length cn).ownBlock = none ∨ (Value.slice an ns.length cn).ownBlock ≠ some w.heap.size := by
            rcases hob : (Value.slice an ns.length cn).ownBlock with _ | j
            · exact .inl rfl
            · right; have := (ho2.lt j hob).1; simp; omega
          refine ⟨HB6.out.trans (two_below _ _ _ _ _ (Nat.le_refl _)), ?_⟩
          rw [HS.out]
          exact ⟨_, _, rfl, owns_base ((ho1.kept (set_grown _ _ 0 _) hk1).kept (set_grown _ _ 1 _) hk1) (by omega), owns_base ((ho2.kept (set_grown _ _ 0 _) hn1).kept (set_grown _ _ 1 _) hn1) (by omega), hap⟩
end Go.Proofs.Ytpfalkdkiffipaa
