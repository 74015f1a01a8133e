/- The lexer's decode: entities put in their place. -/
import Derived.Test.YtpfalkdkiffipaaL12b
namespace Go.Proofs.Ytpfalkdkiffipaa
open Go.RowKit
set_option maxRecDepth 100000
attribute [local go_sem] byt_at byt_wrap
theorem decodeF_step (k : Nat) (l : S.B) (h : l ≠ []) : S.decodeF (k + 1) l = if Lib.indexByte l 38 < 0 then some l else if (S.entity (l.drop (Lib.indexByte l 38).toNat)).2 = 0 then none else
    (S.decodeF k (l.drop ((Lib.indexByte l 38).toNat + (S.entity (l.drop (Lib.indexByte l 38).toNat)).2))).map fun r => l.take (Lib.indexByte l 38).toNat ++ (S.entity (l.drop (Lib.indexByte l 38).toNat)).1 ++ r := by
  cases l with
  | nil => exact absurd rfl h
  | cons c l => rfl
theorem bldSize : (Try.prog.info? 88).map (·.size) = some 2 := by kernel_rfl
theorem bldLies : liesAt Try.prog Try.prog.depth 88 (2 / Try.prog.cellsOf 88) 0 88 1 = true := by kernel_rfl
theorem infoByte : (Try.prog.info? 5).map (fun i => (i.zero, i.size, i.bytes)) = some (some (.int .u8 0), 1, 1) := by kernel_rfl
set_option maxHeartbeats 1000000 in
theorem copy_used (b : Nat) (w : World) (h0 : w.cell? ⟨b, 0, none⟩ = some (.pointer (some ⟨b, 0, none⟩))) :
    Calls Try.prog 80 #[.pointer (some ⟨b, 0, none⟩)] w fun e w' => e = .returned (.tuple #[]) ∧ w = w' := by
  obtain ⟨j, hj, _⟩ := Option.map_eq_some_iff.1 bldSize
  have hne := Lib.run_neq_ptr_same (P := Try.prog) w (⟨b, 0, none⟩ : Addr) Try.underlying86 hj
  go_enter Try.func80, Try.ntmps80
  go_wp2
  go_end0
  exact ⟨rfl, rfl⟩
theorem noesc (a : Addr) (w : World) : (callFunc 97 #[.pointer (some a)]).run Try.prog w = .ok (.value (.pointer (some a))) w := by
  rw [run_callFunc_extern Try.func97 (by kernel_rfl) (by kernel_rfl) (by kernel_rfl) (e := Extern.AbiNoEscape.same) (by kernel_rfl)]
  rw [Lib.run_noEscape]; rfl
set_option maxHeartbeats 1000000 in
theorem copy_fresh (b : Nat) (w : World) (h0 : w.cell? ⟨b, 0, none⟩ = some (.pointer none)) (hsh : w.shape? b = some (88, 2)) (hfz : w.frozen? ⟨b, 0, none⟩ = false) :
    Calls Try.prog 80 #[.pointer (some ⟨b, 0, none⟩)] w fun e w' => e = .returned (.tuple #[]) ∧ w' = w.setCell ⟨b, 0, none⟩ (.pointer (some ⟨b, 0, none⟩)) := by
  obtain ⟨j, hj, hjs⟩ := Option.map_eq_some_iff.1 bldSize
  have r1 := Lib.run_to_unsafe (P := Try.prog) (w := w) (⟨b, 0, none⟩ : Addr) Try.underlying86 Try.underlying116 hj (by rw [hjs]; decide) hsh (Nat.zero_lt_succ 1)
  have r2 := Lib.run_from_unsafe (P := Try.prog) (w := w) (⟨b, 0, none⟩ : Addr) Try.underlying116 Try.underlying86 hj hsh bldLies
  have r3 := noesc ⟨b, 0, none⟩ w
  go_enter Try.func80, Try.ntmps80
  go_wp2
  go_end0
  exact ⟨rfl, rfl⟩
theorem copy_any (B b : Nat) (bs : List Value) (w : World) (h : Lib.IsBuilder 88 5 B b bs w) :
    Calls Try.prog 80 #[.pointer (some ⟨b, 0, none⟩)] w fun e w' => e = .returned (.tuple #[]) ∧ Lib.BuilderAt 88 5 B b (.pointer (some ⟨b, 0, none⟩)) bs w' ∧ Below B w w' := by
  rcases h with h | h
  · exact (copy_fresh b w h.cell0 h.shape h.frozen0).mono fun e w' ⟨he, hw⟩ => ⟨he, by rw [hw]; exact h.used _, by rw [hw]; exact (Below.refl B w).setCell (p := ⟨b, 0, none⟩) h.1 _⟩
  · exact (copy_used b w h.cell0).mono fun e w' ⟨he, hw⟩ => ⟨he, by rw [← hw]; exact h, by rw [← hw]; exact Below.refl B _⟩
def Bld (bb : Nat) (l : S.B) (w : World) : Prop := Lib.IsBuilder 88 5 bb bb (Lib.byteCells l) w
def BldAt (bb : Nat) (l : S.B) (w : World) : Prop := Lib.BuilderAt 88 5 bb bb (.pointer (some ⟨bb, 0, none⟩)) (Lib.byteCells l) w
theorem BldAt.bld {bb : Nat} {l : S.B} {w : World} (h : BldAt bb l w) : Bld bb l w := .inr h
theorem BldAt.open {bb : Nat} {l : S.B} {w : World} (h : BldAt bb l w) : ∃ v, w.heap[bb]? = some (.cells #[.pointer (some ⟨bb, 0, none⟩), v] 88 (0, 0)) ∧ w.ownsRow bb 5 1 v l.length (Lib.byteCells l) ∧ v.ownBlock ≠ some bb := by
  obtain ⟨_, v, h1, h2, h3⟩ := h
  exact ⟨v, h1, by simpa [Lib.byteCells] using h2, h3⟩
theorem bld_put {bb : Nat} {l : S.B} {v v' : Value} {w : World} (h : w.heap[bb]? = some (.cells #[.pointer (some ⟨bb, 0, none⟩), v] 88 (0, 0))) (ho : w.ownsRow bb 5 1 v' l.length (Lib.byteCells l)) : BldAt bb l (w.setCell ⟨bb, 1, none⟩ v') :=
  Lib.BuilderAt.put (T := 88) (e := 5) (Nat.le_refl _) h (bs' := Lib.byteCells l) (by simpa [Lib.byteCells] using ho) (by decide)
set_option maxHeartbeats 1000000 in
theorem bld_write (bb : Nat) (l : S.B) (s : ByteArray) (w : World) (h : Bld bb l w) (_hb : bb ≤ w.heap.size) (hn : l.length + s.size ≤ 140737488355328) :
    Calls Try.prog 70 #[.pointer (some ⟨bb, 0, none⟩), .string s] w fun e w' => e = .returned (.tuple #[.int .i64 s.size, .nilIface]) ∧ Bld bb (l ++ s.data.toList) w' ∧ Below bb w w' := by
  obtain ⟨i0, hi, hz0, hz1, hz2⟩ := info_parts infoByte
  have HC := Lib.hid (copy_any bb bb (Lib.byteCells l) w h)
  clear h
  go_enter Try.func70, Try.ntmps70
  go_wp2_with fail
  refine HC.out.mono ?_
  rintro e w1 ⟨rfl, h1, hb1⟩
  obtain ⟨v, hbk, hown, hne⟩ := BldAt.open h1
  have hlt := lt_of_block hbk
  have c0 := block_cell hbk 0
  have c1 := block_cell hbk 1
  have HBK := Lib.hid hbk
  have HB1 := Lib.hid hb1
  have hsz := hb1.size
  clear hbk hb1 h1
  go_wp2_with (at_builtin; refine Lib.wpList_append_own_string _ rfl _ _ 22 9 rfl bb 5 i0 Try.underlying22 Try.underlying9 hi hz0 hz1 hz2 _ _ _ rfl hown s rfl ?a3 ?a4 ?a5 ?_)
  case a3 => unfold maxLen; omega
  case a4 => omega
  case a5 => omega
  intro v' w2 hown' hgrow _
  have hb2 : w2.heap[bb]? = some (.cells #[.pointer (some ⟨bb, 0, none⟩), v] 88 (0, 0)) := by
    rw [grown_block hgrow bb hlt hne]; exact HBK.out
  have d0 := block_cell hb2 0
  have d1 := block_cell hb2 1
  have f1 := block_free hb2 1
  obtain ⟨ao, n', cap, rfl⟩ : ∃ ao n' cap, v' = .slice ao n' cap := by
    rcases hown'.2 with ⟨hv, _⟩ | ⟨g, cap, cur, hv, _⟩
    · exact ⟨_, _, _, hv⟩
    · exact ⟨_, _, _, hv⟩
  have HW := Lib.hid (HB1.out.grown hgrow (by omega) (fun k hk => (hown.lt k hk).1))
  have HO := Lib.hid hown'
  have H2 := Lib.hid hb2
  clear hb2 hown' hgrow hown c0 c1
  go_wp2
  go_ret2
  have hc : Lib.byteCells (l ++ s.data.toList) = Lib.byteCells l ++ Lib.strCells s := by simp [Lib.byteCells, Lib.strCells]
  exact ⟨rfl, (bld_put (l := l ++ s.data.toList) H2.out (by rw [hc]; simpa using HO.out)).bld, HW.out.setCell (p := ⟨bb, 1, none⟩) (Nat.le_refl _) _⟩
theorem bld_string (bb : Nat) (l : S.B) (w : World) (h : Bld bb l w) (hb : bb ≤ w.heap.size) :
    Calls Try.prog 71 #[.pointer (some ⟨bb, 0, none⟩)] w fun e w' => e = .returned (.string ⟨l.toArray⟩) ∧ Below bb w w' :=
  Try.Builder_String_any bb bb l w h hb
end Go.Proofs.Ytpfalkdkiffipaa
