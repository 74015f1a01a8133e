/- The parser's builder in memory: begin. -/
import Derived.Test.YtpfalkdkiffipaaP13c
namespace Go.Proofs.Ytpfalkdkiffipaa
open Go.RowKit
set_option maxRecDepth 100000
attribute [local go_sem] byt_at byt_wrap cell_lit
theorem row_form {w : World} {base E size n : Nat} {v : Value} {xs : List Value} (h : w.ownsRow base E size v n xs) : ∃ a cap, v = .slice a n cap := by
  obtain ⟨_, h2⟩ := h
  rcases h2 with ⟨rfl, hn⟩ | ⟨g, cap, cur, rfl, _⟩
  · exact ⟨none, 0, by rw [hn]⟩
  · exact ⟨_, cap, rfl⟩
set_option maxHeartbeats 8000000 in
theorem begin_any (b : Nat) (s : S.St) (nm : ByteArray) (w : World) (h : Bd b s w) (hs : s.text.length ≤ 1000000) (ho : s.opn.length ≤ 900000) (hn : s.nodes.length ≤ 900000) (hm : s.names.length ≤ 900000) (h2 : s.flush.opn = s.opn) (h3 : s.flush.nodes.length ≤ s.nodes.length + 1) (h4 : s.flush.names.length ≤ s.names.length + 1) :
    Calls Try.prog 20 #[.pointer (some ⟨b, 0, none⟩), .string nm] w (BdSaid b (s.begin nm.data.toList) w) := by
  have HS := Lib.hid (S.St.begin.eq_def s nm.data.toList)
  simp only [] at HS
  have HF := Lib.hid (flush_any b s w h hs (by omega) (by omega) (by omega))
  obtain ⟨i0, hi, hz0, hz1, hz2⟩ := info_parts infoInt
  clear h
  go_enter Try.func20, Try.ntmps20
  go_wp2_with fail
  refine HF.out.mono ?_
  rintro e w1 ⟨rfl, hb1, hw1⟩
  rw [← h2] at ho
  have hn1 : s.flush.nodes.length ≤ 900001 := by omega
  have hm1 : s.flush.names.length ≤ 900001 := by omega
  clear HF h2 h3 h4 hs hn hm
  generalize s.flush = t at *
  have HB1 := Lib.hid hb1
  obtain ⟨vn, vm, vo, hb⟩ := hb1
  obtain ⟨c0, c1, c2, c3, c4, c5⟩ := hb.cells
  have f4 := block_free hb.block 4
  have f5 := block_free hb.block 5
  have HB := Lib.hid hb
  obtain ⟨ao, capo, rfl, _⟩ := row_at hb.opn
  obtain ⟨an, capn, rfl⟩ := row_form hb.nodes
  have HW1 := Lib.hid hw1
  have hlt1 := lt_of_block hb.block
  clear hw1 c1 c3 hb
  have hd64 : decide ((64 : Int) < (t.opn.length : Int)) = decide (64 < t.opn.length) := decide_eq_decide.2 (by omega)
  have HD64 := Lib.hid hd64; clear hd64
  cases hw : t.wrong
  · rw [hw] at c5
    cases hd : t.deep
    · rw [hd] at c4
      go_wp2_with fail
      refine (top_any b t _ HB1.out (by omega)).mono ?_
      rintro e w' ⟨rfl, n, rfl⟩
      by_cases htop : t.top < 0
      · have hdt : decide (t.top < 0) = true := by simpa using htop
        go_wp2_with fail
        refine (put_any b { t with wrong := decide (0 < t.nodes.length), deep := decide ((64 : Int) < (t.opn.length : Int)) } 1 0 0 ByteArray.empty nm _ (by exact ⟨_, _, _, ((HB.out.ext (Below.drewN (Below.refl _ _) n)).put_wrong (decide (0 < t.nodes.length))).put_deep (decide ((64 : Int) < (t.opn.length : Int)))⟩) (by simp only []; omega) (by simp only []; omega) (by simp only []; omega)).mono ?_
        rintro e w3 ⟨rfl, hb3, hw3⟩
        have HW3 := Lib.hid (HW1.out.trans ((((Below.drewN (Below.refl _ _) n).trans ((set_below b 5 _ _).trans (set_below b 4 _ _)))).trans hw3))
        go_wp2_with fail
        have HS3 : Hid (s.begin nm.data.toList = { (({ t with wrong := decide (0 < t.nodes.length), deep := decide ((64 : Int) < (t.opn.length : Int)) } : S.St).put 1 0 (ByteArray.empty).data.toList nm.data.toList) with opn := (({ t with wrong := decide (0 < t.nodes.length), deep := decide ((64 : Int) < (t.opn.length : Int)) } : S.St).put 1 0 (ByteArray.empty).data.toList nm.data.toList).opn ++ [((({ t with wrong := decide (0 < t.nodes.length), deep := decide ((64 : Int) < (t.opn.length : Int)) } : S.St).put 1 0 (ByteArray.empty).data.toList nm.data.toList).nodes.length : Int) - 1] }) := Lib.hid (by
          rw [HS.out, ← HD64.out, hw, hd, hdt]; rfl)
        generalize hT3 : ({ t with wrong := decide (0 < t.nodes.length), deep := decide ((64 : Int) < (t.opn.length : Int)) } : S.St).put 1 0 (ByteArray.empty).data.toList nm.data.toList = t3 at *
        have ho3 : t3.opn.length ≤ 900000 := by rw [← hT3]; exact ho
        have hn3 : t3.nodes.length ≤ 900002 := by rw [← hT3]; simp only [S.St.put, List.length_append, List.length_cons, List.length_nil]; omega
        have hn3' : 0 < t3.nodes.length := by rw [← hT3]; simp only [S.St.put, List.length_append, List.length_cons, List.length_nil]; omega
        clear hT3 c0 c2 c4 c5 f4 f5
        obtain ⟨vn3, vm3, vo3, hb3⟩ := hb3
        obtain ⟨c0, c1, c2, c3, c4, c5⟩ := hb3.cells
        have f2 := block_free hb3.block 2
        have hlt3 := lt_of_block hb3.block
        have hown := hb3.opn
        have HB3 := Lib.hid hb3
        obtain ⟨an3, capn3, rfl⟩ := row_form hb3.nodes
        have hne := own_ne hown
        have hca : ∀ o : Obj, (w3.alloc o).drew.cell? ⟨b, 2, none⟩ = some vo3 := fun o => by rw [← c2]; exact ((Below.refl w3.heap.size w3).alloc (Nat.le_refl _) o).cell (p := ⟨b, 2, none⟩) hlt3
        have hfa : ∀ o : Obj, (w3.alloc o).drew.frozen? ⟨b, 2, none⟩ = false := fun o => by rw [← f2]; exact ((Below.refl w3.heap.size w3).alloc (Nat.le_refl _) o).frozen (p := ⟨b, 2, none⟩) hlt3
        have hc0 : ∀ o : Obj, (w3.alloc o).drew.cell? ⟨b, 0, none⟩ = some (.slice an3 t3.nodes.length capn3) := fun o => by rw [← c0]; exact ((Below.refl w3.heap.size w3).alloc (Nat.le_refl _) o).cell (p := ⟨b, 0, none⟩) hlt3
        have hnew : ∀ o : Obj, (w3.alloc o).drew.heap[w3.heap.size]? = some o := fun o => heap_new w3 o
        clear hb3 hw3 c1 c3 c4 c5
        go_region_law
          ((refine step_append_lies _ (by rfl) _ _ _ (by rfl) (b + 1) 3 i0 _ 1 8 Try.underlying55 hi hz0 hz1 hz2 rfl (by omega) vo3 t3.opn.length (ints t3.opn) (by rfl) ((hown.alloc _).drew) ⟨w3.heap.size, 0, none⟩ 1 1 [.int .i64 (IntKind.i64.wrap ((t3.nodes.length : Int) - 1))] (by rfl) (by rfl) (World.news_of_block (cs := #[.int .i64 (IntKind.i64.wrap ((t3.nodes.length : Int) - 1))]) (t := 3) (fr := (0, 0)) (hnew _)) (by simp [Value.oneCell']) (by omega) (by unfold maxLen; omega) (by omega) (by simp; omega) (w3.heap.size + 1) (by simp) ?_; intro g cap w4 hown4 hgrow hat hlt4; have e0 := (hgrow.cell_far ⟨b, 2, none⟩ (by simp; omega) (Ne.symm hne)).trans (hca _); have e1 := (hgrow.frozen_far ⟨b, 2, none⟩ (by simp; omega) (Ne.symm hne)).trans (hfa _)))
        all_goals
          go_end0
          have hwr : IntKind.i64.wrap ((t3.nodes.length : Int) - 1) = (t3.nodes.length : Int) - 1 := wraps_i64 _ (by omega) (by omega)
          rw [hwr] at hown4
          refine ⟨rfl, ?_, HW3.out.trans ((Below.grown (Below.drew ((Below.refl b w3).alloc (by omega) _)) hgrow (by simp; omega) (fun k hk => own_ge hown hk)).setCell (p := ⟨b, 2, none⟩) (Nat.le_refl _) _)⟩
          rw [HS3.out]
          exact ⟨_, _, _, HB3.out.opn_grown hgrow hown4 rfl hat (Nat.le_succ _)⟩
      · have hdt : decide (t.top < 0) = false := by simpa using htop
        go_wp2_with fail
        refine (put_any b { t with wrong := false, deep := decide ((64 : Int) < (t.opn.length : Int)) } 1 0 0 ByteArray.empty nm _ (by exact ⟨_, _, _, ((HB.out.ext (Below.drewN (Below.refl _ _) n)).put_wrong (false)).put_deep (decide ((64 : Int) < (t.opn.length : Int)))⟩) (by simp only []; omega) (by simp only []; omega) (by simp only []; omega)).mono ?_
        rintro e w3 ⟨rfl, hb3, hw3⟩
        have HW3 := Lib.hid (HW1.out.trans ((((Below.drewN (Below.refl _ _) n).trans ((set_below b 5 _ _).trans (set_below b 4 _ _)))).trans hw3))
        go_wp2_with fail
        have HS3 : Hid (s.begin nm.data.toList = { (({ t with wrong := false, deep := decide ((64 : Int) < (t.opn.length : Int)) } : S.St).put 1 0 (ByteArray.empty).data.toList nm.data.toList) with opn := (({ t with wrong := false, deep := decide ((64 : Int) < (t.opn.length : Int)) } : S.St).put 1 0 (ByteArray.empty).data.toList nm.data.toList).opn ++ [((({ t with wrong := false, deep := decide ((64 : Int) < (t.opn.length : Int)) } : S.St).put 1 0 (ByteArray.empty).data.toList nm.data.toList).nodes.length : Int) - 1] }) := Lib.hid (by
          rw [HS.out, ← HD64.out, hw, hd, hdt]; rfl)
        generalize hT3 : ({ t with wrong := false, deep := decide ((64 : Int) < (t.opn.length : Int)) } : S.St).put 1 0 (ByteArray.empty).data.toList nm.data.toList = t3 at *
        have ho3 : t3.opn.length ≤ 900000 := by rw [← hT3]; exact ho
        have hn3 : t3.nodes.length ≤ 900002 := by rw [← hT3]; simp only [S.St.put, List.length_append, List.length_cons, List.length_nil]; omega
        have hn3' : 0 < t3.nodes.length := by rw [← hT3]; simp only [S.St.put, List.length_append, List.length_cons, List.length_nil]; omega
        clear hT3 c0 c2 c4 c5 f4 f5
        obtain ⟨vn3, vm3, vo3, hb3⟩ := hb3
        obtain ⟨c0, c1, c2, c3, c4, c5⟩ := hb3.cells
        have f2 := block_free hb3.block 2
        have hlt3 := lt_of_block hb3.block
        have hown := hb3.opn
        have HB3 := Lib.hid hb3
        obtain ⟨an3, capn3, rfl⟩ := row_form hb3.nodes
        have hne := own_ne hown
        have hca : ∀ o : Obj, (w3.alloc o).drew.cell? ⟨b, 2, none⟩ = some vo3 := fun o => by rw [← c2]; exact ((Below.refl w3.heap.size w3).alloc (Nat.le_refl _) o).cell (p := ⟨b, 2, none⟩) hlt3
        have hfa : ∀ o : Obj, (w3.alloc o).drew.frozen? ⟨b, 2, none⟩ = false := fun o => by rw [← f2]; exact ((Below.refl w3.heap.size w3).alloc (Nat.le_refl _) o).frozen (p := ⟨b, 2, none⟩) hlt3
        have hc0 : ∀ o : Obj, (w3.alloc o).drew.cell? ⟨b, 0, none⟩ = some (.slice an3 t3.nodes.length capn3) := fun o => by rw [← c0]; exact ((Below.refl w3.heap.size w3).alloc (Nat.le_refl _) o).cell (p := ⟨b, 0, none⟩) hlt3
        have hnew : ∀ o : Obj, (w3.alloc o).drew.heap[w3.heap.size]? = some o := fun o => heap_new w3 o
        clear hb3 hw3 c1 c3 c4 c5
        go_region_law
          ((refine step_append_lies _ (by rfl) _ _ _ (by rfl) (b + 1) 3 i0 _ 1 8 Try.underlying55 hi hz0 hz1 hz2 rfl (by omega) vo3 t3.opn.length (ints t3.opn) (by rfl) ((hown.alloc _).drew) ⟨w3.heap.size, 0, none⟩ 1 1 [.int .i64 (IntKind.i64.wrap ((t3.nodes.length : Int) - 1))] (by rfl) (by rfl) (World.news_of_block (cs := #[.int .i64 (IntKind.i64.wrap ((t3.nodes.length : Int) - 1))]) (t := 3) (fr := (0, 0)) (hnew _)) (by simp [Value.oneCell']) (by omega) (by unfold maxLen; omega) (by omega) (by simp; omega) (w3.heap.size + 1) (by simp) ?_; intro g cap w4 hown4 hgrow hat hlt4; have e0 := (hgrow.cell_far ⟨b, 2, none⟩ (by simp; omega) (Ne.symm hne)).trans (hca _); have e1 := (hgrow.frozen_far ⟨b, 2, none⟩ (by simp; omega) (Ne.symm hne)).trans (hfa _)))
        all_goals
          go_end0
          have hwr : IntKind.i64.wrap ((t3.nodes.length : Int) - 1) = (t3.nodes.length : Int) - 1 := wraps_i64 _ (by omega) (by omega)
          rw [hwr] at hown4
          refine ⟨rfl, ?_, HW3.out.trans ((Below.grown (Below.drew ((Below.refl b w3).alloc (by omega) _)) hgrow (by simp; omega) (fun k hk => own_ge hown hk)).setCell (p := ⟨b, 2, none⟩) (Nat.le_refl _) _)⟩
          rw [HS3.out]
          exact ⟨_, _, _, HB3.out.opn_grown hgrow hown4 rfl hat (Nat.le_succ _)⟩
    · rw [hd] at c4
      go_wp2_with fail
      refine (top_any b t _ HB1.out (by omega)).mono ?_
      rintro e w' ⟨rfl, n, rfl⟩
      by_cases htop : t.top < 0
      · have hdt : decide (t.top < 0) = true := by simpa using htop
        go_wp2_with fail
        refine (put_any b { t with wrong := decide (0 < t.nodes.length), deep := true } 1 0 0 ByteArray.empty nm _ (by exact ⟨_, _, _, ((HB.out.ext (Below.drewN (Below.refl _ _) n)).put_wrong (decide (0 < t.nodes.length))).put_deep (true)⟩) (by simp only []; omega) (by simp only []; omega) (by simp only []; omega)).mono ?_
        rintro e w3 ⟨rfl, hb3, hw3⟩
        have HW3 := Lib.hid (HW1.out.trans ((((Below.drewN (Below.refl _ _) n).trans ((set_below b 5 _ _).trans (set_below b 4 _ _)))).trans hw3))
        go_wp2_with fail
        have HS3 : Hid (s.begin nm.data.toList = { (({ t with wrong := decide (0 < t.nodes.length), deep := true } : S.St).put 1 0 (ByteArray.empty).data.toList nm.data.toList) with opn := (({ t with wrong := decide (0 < t.nodes.length), deep := true } : S.St).put 1 0 (ByteArray.empty).data.toList nm.data.toList).opn ++ [((({ t with wrong := decide (0 < t.nodes.length), deep := true } : S.St).put 1 0 (ByteArray.empty).data.toList nm.data.toList).nodes.length : Int) - 1] }) := Lib.hid (by
          rw [HS.out, ← HD64.out, hw, hd, hdt]; rfl)
        generalize hT3 : ({ t with wrong := decide (0 < t.nodes.length), deep := true } : S.St).put 1 0 (ByteArray.empty).data.toList nm.data.toList = t3 at *
        have ho3 : t3.opn.length ≤ 900000 := by rw [← hT3]; exact ho
        have hn3 : t3.nodes.length ≤ 900002 := by rw [← hT3]; simp only [S.St.put, List.length_append, List.length_cons, List.length_nil]; omega
        have hn3' : 0 < t3.nodes.length := by rw [← hT3]; simp only [S.St.put, List.length_append, List.length_cons, List.length_nil]; omega
        clear hT3 c0 c2 c4 c5 f4 f5
        obtain ⟨vn3, vm3, vo3, hb3⟩ := hb3
        obtain ⟨c0, c1, c2, c3, c4, c5⟩ := hb3.cells
        have f2 := block_free hb3.block 2
        have hlt3 := lt_of_block hb3.block
        have hown := hb3.opn
        have HB3 := Lib.hid hb3
        obtain ⟨an3, capn3, rfl⟩ := row_form hb3.nodes
        have hne := own_ne hown
        have hca : ∀ o : Obj, (w3.alloc o).drew.cell? ⟨b, 2, none⟩ = some vo3 := fun o => by rw [← c2]; exact ((Below.refl w3.heap.size w3).alloc (Nat.le_refl _) o).cell (p := ⟨b, 2, none⟩) hlt3
        have hfa : ∀ o : Obj, (w3.alloc o).drew.frozen? ⟨b, 2, none⟩ = false := fun o => by rw [← f2]; exact ((Below.refl w3.heap.size w3).alloc (Nat.le_refl _) o).frozen (p := ⟨b, 2, none⟩) hlt3
        have hc0 : ∀ o : Obj, (w3.alloc o).drew.cell? ⟨b, 0, none⟩ = some (.slice an3 t3.nodes.length capn3) := fun o => by rw [← c0]; exact ((Below.refl w3.heap.size w3).alloc (Nat.le_refl _) o).cell (p := ⟨b, 0, none⟩) hlt3
        have hnew : ∀ o : Obj, (w3.alloc o).drew.heap[w3.heap.size]? = some o := fun o => heap_new w3 o
        clear hb3 hw3 c1 c3 c4 c5
        go_region_law
          ((refine step_append_lies _ (by rfl) _ _ _ (by rfl) (b + 1) 3 i0 _ 1 8 Try.underlying55 hi hz0 hz1 hz2 rfl (by omega) vo3 t3.opn.length (ints t3.opn) (by rfl) ((hown.alloc _).drew) ⟨w3.heap.size, 0, none⟩ 1 1 [.int .i64 (IntKind.i64.wrap ((t3.nodes.length : Int) - 1))] (by rfl) (by rfl) (World.news_of_block (cs := #[.int .i64 (IntKind.i64.wrap ((t3.nodes.length : Int) - 1))]) (t := 3) (fr := (0, 0)) (hnew _)) (by simp [Value.oneCell']) (by omega) (by unfold maxLen; omega) (by omega) (by simp; omega) (w3.heap.size + 1) (by simp) ?_; intro g cap w4 hown4 hgrow hat hlt4; have e0 := (hgrow.cell_far ⟨b, 2, none⟩ (by simp; omega) (Ne.symm hne)).trans (hca _); have e1 := (hgrow.frozen_far ⟨b, 2, none⟩ (by simp; omega) (Ne.symm hne)).trans (hfa _)))
        all_goals
          go_end0
          have hwr : IntKind.i64.wrap ((t3.nodes.length : Int) - 1) = (t3.nodes.length : Int) - 1 := wraps_i64 _ (by omega) (by omega)
          rw [hwr] at hown4
          refine ⟨rfl, ?_, HW3.out.trans ((Below.grown (Below.drew ((Below.refl b w3).alloc (by omega) _)) hgrow (by simp; omega) (fun k hk => own_ge hown hk)).setCell (p := ⟨b, 2, none⟩) (Nat.le_refl _) _)⟩
          rw [HS3.out]
          exact ⟨_, _, _, HB3.out.opn_grown hgrow hown4 rfl hat (Nat.le_succ _)⟩
      · have hdt : decide (t.top < 0) = false := by simpa using htop
        go_wp2_with fail
        refine (put_any b { t with wrong := false, deep := true } 1 0 0 ByteArray.empty nm _ (by exact ⟨_, _, _, ((HB.out.ext (Below.drewN (Below.refl _ _) n)).put_wrong (false)).put_deep (true)⟩) (by simp only []; omega) (by simp only []; omega) (by simp only []; omega)).mono ?_
        rintro e w3 ⟨rfl, hb3, hw3⟩
        have HW3 := Lib.hid (HW1.out.trans ((((Below.drewN (Below.refl _ _) n).trans ((set_below b 5 _ _).trans (set_below b 4 _ _)))).trans hw3))
        go_wp2_with fail
        have HS3 : Hid (s.begin nm.data.toList = { (({ t with wrong := false, deep := true } : S.St).put 1 0 (ByteArray.empty).data.toList nm.data.toList) with opn := (({ t with wrong := false, deep := true } : S.St).put 1 0 (ByteArray.empty).data.toList nm.data.toList).opn ++ [((({ t with wrong := false, deep := true } : S.St).put 1 0 (ByteArray.empty).data.toList nm.data.toList).nodes.length : Int) - 1] }) := Lib.hid (by
          rw [HS.out, ← HD64.out, hw, hd, hdt]; rfl)
        generalize hT3 : ({ t with wrong := false, deep := true } : S.St).put 1 0 (ByteArray.empty).data.toList nm.data.toList = t3 at *
        have ho3 : t3.opn.length ≤ 900000 := by rw [← hT3]; exact ho
        have hn3 : t3.nodes.length ≤ 900002 := by rw [← hT3]; simp only [S.St.put, List.length_append, List.length_cons, List.length_nil]; omega
        have hn3' : 0 < t3.nodes.length := by rw [← hT3]; simp only [S.St.put, List.length_append, List.length_cons, List.length_nil]; omega
        clear hT3 c0 c2 c4 c5 f4 f5
        obtain ⟨vn3, vm3, vo3, hb3⟩ := hb3
        obtain ⟨c0, c1, c2, c3, c4, c5⟩ := hb3.cells
        have f2 := block_free hb3.block 2
        have hlt3 := lt_of_block hb3.block
        have hown := hb3.opn
        have HB3 := Lib.hid hb3
        obtain ⟨an3, capn3, rfl⟩ := row_form hb3.nodes
        have hne := own_ne hown
        have hca : ∀ o : Obj, (w3.alloc o).drew.cell? ⟨b, 2, none⟩ = some vo3 := fun o => by rw [← c2]; exact ((Below.refl w3.heap.size w3).alloc (Nat.le_refl _) o).cell (p := ⟨b, 2, none⟩) hlt3
        have hfa : ∀ o : Obj, (w3.alloc o).drew.frozen? ⟨b, 2, none⟩ = false := fun o => by rw [← f2]; exact ((Below.refl w3.heap.size w3).alloc (Nat.le_refl _) o).frozen (p := ⟨b, 2, none⟩) hlt3
        have hc0 : ∀ o : Obj, (w3.alloc o).drew.cell? ⟨b, 0, none⟩ = some (.slice an3 t3.nodes.length capn3) := fun o => by rw [← c0]; exact ((Below.refl w3.heap.size w3).alloc (Nat.le_refl _) o).cell (p := ⟨b, 0, none⟩) hlt3
        have hnew : ∀ o : Obj, (w3.alloc o).drew.heap[w3.heap.size]? = some o := fun o => heap_new w3 o
        clear hb3 hw3 c1 c3 c4 c5
        go_region_law
          ((refine step_append_lies _ (by rfl) _ _ _ (by rfl) (b + 1) 3 i0 _ 1 8 Try.underlying55 hi hz0 hz1 hz2 rfl (by omega) vo3 t3.opn.length (ints t3.opn) (by rfl) ((hown.alloc _).drew) ⟨w3.heap.size, 0, none⟩ 1 1 [.int .i64 (IntKind.i64.wrap ((t3.nodes.length : Int) - 1))] (by rfl) (by rfl) (World.news_of_block (cs := #[.int .i64 (IntKind.i64.wrap ((t3.nodes.length : Int) - 1))]) (t := 3) (fr := (0, 0)) (hnew _)) (by simp [Value.oneCell']) (by omega) (by unfold maxLen; omega) (by omega) (by simp; omega) (w3.heap.size + 1) (by simp) ?_; intro g cap w4 hown4 hgrow hat hlt4; have e0 := (hgrow.cell_far ⟨b, 2, none⟩ (by simp; omega) (Ne.symm hne)).trans (hca _); have e1 := (hgrow.frozen_far ⟨b, 2, none⟩ (by simp; omega) (Ne.symm hne)).trans (hfa _)))
        all_goals
          go_end0
          have hwr : IntKind.i64.wrap ((t3.nodes.length : Int) - 1) = (t3.nodes.length : Int) - 1 := wraps_i64 _ (by omega) (by omega)
          rw [hwr] at hown4
          refine ⟨rfl, ?_, HW3.out.trans ((Below.grown (Below.drew ((Below.refl b w3).alloc (by omega) _)) hgrow (by simp; omega) (fun k hk => own_ge hown hk)).setCell (p := ⟨b, 2, none⟩) (Nat.le_refl _) _)⟩
          rw [HS3.out]
          exact ⟨_, _, _, HB3.out.opn_grown hgrow hown4 rfl hat (Nat.le_succ _)⟩
  · rw [hw] at c5
    cases hd : t.deep
    · rw [hd] at c4
      go_wp2_with fail
      refine (put_any b { t with wrong := true, deep := decide ((64 : Int) < (t.opn.length : Int)) } 1 0 0 ByteArray.empty nm _ (by exact ⟨_, _, _, (HB.out.put_wrong true).put_deep (decide ((64 : Int) < (t.opn.length : Int)))⟩) (by simp only []; omega) (by simp only []; omega) (by simp only []; omega)).mono ?_
      rintro e w3 ⟨rfl, hb3, hw3⟩
      have HW3 := Lib.hid (HW1.out.trans ((((set_below b 5 _ _).trans (set_below b 4 _ _))).trans hw3))
      go_wp2_with fail
      have HS3 : Hid (s.begin nm.data.toList = { (({ t with wrong := true, deep := decide ((64 : Int) < (t.opn.length : Int)) } : S.St).put 1 0 (ByteArray.empty).data.toList nm.data.toList) with opn := (({ t with wrong := true, deep := decide ((64 : Int) < (t.opn.length : Int)) } : S.St).put 1 0 (ByteArray.empty).data.toList nm.data.toList).opn ++ [((({ t with wrong := true, deep := decide ((64 : Int) < (t.opn.length : Int)) } : S.St).put 1 0 (ByteArray.empty).data.toList nm.data.toList).nodes.length : Int) - 1] }) := Lib.hid (by
        rw [HS.out, ← HD64.out, hw, hd]; rfl)
      generalize hT3 : ({ t with wrong := true, deep := decide ((64 : Int) < (t.opn.length : Int)) } : S.St).put 1 0 (ByteArray.empty).data.toList nm.data.toList = t3 at *
      have ho3 : t3.opn.length ≤ 900000 := by rw [← hT3]; exact ho
      have hn3 : t3.nodes.length ≤ 900002 := by rw [← hT3]; simp only [S.St.put, List.length_append, List.length_cons, List.length_nil]; omega
      have hn3' : 0 < t3.nodes.length := by rw [← hT3]; simp only [S.St.put, List.length_append, List.length_cons, List.length_nil]; omega
      clear hT3 c0 c2 c4 c5 f4 f5
      obtain ⟨vn3, vm3, vo3, hb3⟩ := hb3
      obtain ⟨c0, c1, c2, c3, c4, c5⟩ := hb3.cells
      have f2 := block_free hb3.block 2
      have hlt3 := lt_of_block hb3.block
      have hown := hb3.opn
      have HB3 := Lib.hid hb3
      obtain ⟨an3, capn3, rfl⟩ := row_form hb3.nodes
      have hne := own_ne hown
      have hca : ∀ o : Obj, (w3.alloc o).drew.cell? ⟨b, 2, none⟩ = some vo3 := fun o => by rw [← c2]; exact ((Below.refl w3.heap.size w3).alloc (Nat.le_refl _) o).cell (p := ⟨b, 2, none⟩) hlt3
      have hfa : ∀ o : Obj, (w3.alloc o).drew.frozen? ⟨b, 2, none⟩ = false := fun o => by rw [← f2]; exact ((Below.refl w3.heap.size w3).alloc (Nat.le_refl _) o).frozen (p := ⟨b, 2, none⟩) hlt3
      have hc0 : ∀ o : Obj, (w3.alloc o).drew.cell? ⟨b, 0, none⟩ = some (.slice an3 t3.nodes.length capn3) := fun o => by rw [← c0]; exact ((Below.refl w3.heap.size w3).alloc (Nat.le_refl _) o).cell (p := ⟨b, 0, none⟩) hlt3
      have hnew : ∀ o : Obj, (w3.alloc o).drew.heap[w3.heap.size]? = some o := fun o => heap_new w3 o
      clear hb3 hw3 c1 c3 c4 c5
      go_region_law
        ((refine step_append_lies _ (by rfl) _ _ _ (by rfl) (b + 1) 3 i0 _ 1 8 Try.underlying55 hi hz0 hz1 hz2 rfl (by omega) vo3 t3.opn.length (ints t3.opn) (by rfl) ((hown.alloc _).drew) ⟨w3.heap.size, 0, none⟩ 1 1 [.int .i64 (IntKind.i64.wrap ((t3.nodes.length : Int) - 1))] (by rfl) (by rfl) (World.news_of_block (cs := #[.int .i64 (IntKind.i64.wrap ((t3.nodes.length : Int) - 1))]) (t := 3) (fr := (0, 0)) (hnew _)) (by simp [Value.oneCell']) (by omega) (by unfold maxLen; omega) (by omega) (by simp; omega) (w3.heap.size + 1) (by simp) ?_; intro g cap w4 hown4 hgrow hat hlt4; have e0 := (hgrow.cell_far ⟨b, 2, none⟩ (by simp; omega) (Ne.symm hne)).trans (hca _); have e1 := (hgrow.frozen_far ⟨b, 2, none⟩ (by simp; omega) (Ne.symm hne)).trans (hfa _)))
      all_goals
        go_end0
        have hwr : IntKind.i64.wrap ((t3.nodes.length : Int) - 1) = (t3.nodes.length : Int) - 1 := wraps_i64 _ (by omega) (by omega)
        rw [hwr] at hown4
        refine ⟨rfl, ?_, HW3.out.trans ((Below.grown (Below.drew ((Below.refl b w3).alloc (by omega) _)) hgrow (by simp; omega) (fun k hk => own_ge hown hk)).setCell (p := ⟨b, 2, none⟩) (Nat.le_refl _) _)⟩
        rw [HS3.out]
        exact ⟨_, _, _, HB3.out.opn_grown hgrow hown4 rfl hat (Nat.le_succ _)⟩
    · rw [hd] at c4
      go_wp2_with fail
      refine (put_any b { t with wrong := true, deep := true } 1 0 0 ByteArray.empty nm _ (by exact ⟨_, _, _, (HB.out.put_wrong true).put_deep (true)⟩) (by simp only []; omega) (by simp only []; omega) (by simp only []; omega)).mono ?_
      rintro e w3 ⟨rfl, hb3, hw3⟩
      have HW3 := Lib.hid (HW1.out.trans ((((set_below b 5 _ _).trans (set_below b 4 _ _))).trans hw3))
      go_wp2_with fail
      have HS3 : Hid (s.begin nm.data.toList = { (({ t with wrong := true, deep := true } : S.St).put 1 0 (ByteArray.empty).data.toList nm.data.toList) with opn := (({ t with wrong := true, deep := true } : S.St).put 1 0 (ByteArray.empty).data.toList nm.data.toList).opn ++ [((({ t with wrong := true, deep := true } : S.St).put 1 0 (ByteArray.empty).data.toList nm.data.toList).nodes.length : Int) - 1] }) := Lib.hid (by
        rw [HS.out, ← HD64.out, hw, hd]; rfl)
      generalize hT3 : ({ t with wrong := true, deep := true } : S.St).put 1 0 (ByteArray.empty).data.toList nm.data.toList = t3 at *
      have ho3 : t3.opn.length ≤ 900000 := by rw [← hT3]; exact ho
      have hn3 : t3.nodes.length ≤ 900002 := by rw [← hT3]; simp only [S.St.put, List.length_append, List.length_cons, List.length_nil]; omega
      have hn3' : 0 < t3.nodes.length := by rw [← hT3]; simp only [S.St.put, List.length_append, List.length_cons, List.length_nil]; omega
      clear hT3 c0 c2 c4 c5 f4 f5
      obtain ⟨vn3, vm3, vo3, hb3⟩ := hb3
      obtain ⟨c0, c1, c2, c3, c4, c5⟩ := hb3.cells
      have f2 := block_free hb3.block 2
      have hlt3 := lt_of_block hb3.block
      have hown := hb3.opn
      have HB3 := Lib.hid hb3
      obtain ⟨an3, capn3, rfl⟩ := row_form hb3.nodes
      have hne := own_ne hown
      have hca : ∀ o : Obj, (w3.alloc o).drew.cell? ⟨b, 2, none⟩ = some vo3 := fun o => by rw [← c2]; exact ((Below.refl w3.heap.size w3).alloc (Nat.le_refl _) o).cell (p := ⟨b, 2, none⟩) hlt3
      have hfa : ∀ o : Obj, (w3.alloc o).drew.frozen? ⟨b, 2, none⟩ = false := fun o => by rw [← f2]; exact ((Below.refl w3.heap.size w3).alloc (Nat.le_refl _) o).frozen (p := ⟨b, 2, none⟩) hlt3
      have hc0 : ∀ o : Obj, (w3.alloc o).drew.cell? ⟨b, 0, none⟩ = some (.slice an3 t3.nodes.length capn3) := fun o => by rw [← c0]; exact ((Below.refl w3.heap.size w3).alloc (Nat.le_refl _) o).cell (p := ⟨b, 0, none⟩) hlt3
      have hnew : ∀ o : Obj, (w3.alloc o).drew.heap[w3.heap.size]? = some o := fun o => heap_new w3 o
      clear hb3 hw3 c1 c3 c4 c5
      go_region_law
        ((refine step_append_lies _ (by rfl) _ _ _ (by rfl) (b + 1) 3 i0 _ 1 8 Try.underlying55 hi hz0 hz1 hz2 rfl (by omega) vo3 t3.opn.length (ints t3.opn) (by rfl) ((hown.alloc _).drew) ⟨w3.heap.size, 0, none⟩ 1 1 [.int .i64 (IntKind.i64.wrap ((t3.nodes.length : Int) - 1))] (by rfl) (by rfl) (World.news_of_block (cs := #[.int .i64 (IntKind.i64.wrap ((t3.nodes.length : Int) - 1))]) (t := 3) (fr := (0, 0)) (hnew _)) (by simp [Value.oneCell']) (by omega) (by unfold maxLen; omega) (by omega) (by simp; omega) (w3.heap.size + 1) (by simp) ?_; intro g cap w4 hown4 hgrow hat hlt4; have e0 := (hgrow.cell_far ⟨b, 2, none⟩ (by simp; omega) (Ne.symm hne)).trans (hca _); have e1 := (hgrow.frozen_far ⟨b, 2, none⟩ (by simp; omega) (Ne.symm hne)).trans (hfa _)))
      all_goals
        go_end0
        have hwr : IntKind.i64.wrap ((t3.nodes.length : Int) - 1) = (t3.nodes.length : Int) - 1 := wraps_i64 _ (by omega) (by omega)
        rw [hwr] at hown4
        refine ⟨rfl, ?_, HW3.out.trans ((Below.grown (Below.drew ((Below.refl b w3).alloc (by omega) _)) hgrow (by simp; omega) (fun k hk => own_ge hown hk)).setCell (p := ⟨b, 2, none⟩) (Nat.le_refl _) _)⟩
        rw [HS3.out]
        exact ⟨_, _, _, HB3.out.opn_grown hgrow hown4 rfl hat (Nat.le_succ _)⟩
end Go.Proofs.Ytpfalkdkiffipaa
