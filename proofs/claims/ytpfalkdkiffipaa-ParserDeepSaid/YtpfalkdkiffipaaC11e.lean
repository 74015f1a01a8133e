/- Numbers, entities: chars.Encode, digit, numbered, named, Entity. -/
import Derived.Test.YtpfalkdkiffipaaC11d
import Derived.Laws.IdiomStrings
namespace Go.Proofs.Ytpfalkdkiffipaa
open Go.RowKit
set_option maxRecDepth 100000
attribute [local go_sem] byt_at byt_wrap
theorem u8_nat (n : Int) (h0 : 0 ≤ n) (h1 : n < 256) : ((S.u8 n).toNat : Int) = n := by unfold S.u8; simp; omega
theorem conv_back (w W : World) (C : Array Value) (l : List UInt8) (c : Nat) (hW : W = w.alloc (.cells C 5)) (hC : C = (l.map fun b => Value.int .u8 (b.toNat : Int)).toArray) :
    (convert 22 9 (.slice (some ⟨w.heap.size, 0, none⟩) l.length c)).run Try.prog W = .ok (.string ⟨l.toArray⟩) W := by
  subst hW
  refine run_convert_bytes_back _ 22 9 5 ⟨w.heap.size, 0, none⟩ c l Try.underlying22 Try.underlying5 Try.underlying9 ?_
  intro j hj
  have ha : (⟨w.heap.size, 0, none⟩ : Addr).add j = ⟨w.heap.size, j, none⟩ := by unfold Addr.add; split <;> simp_all
  rw [ha, World.cell?_alloc_new, hC]
  simp [hj]
theorem low6 (n : Int) (h0 : 0 ≤ n) (h1 : n < 2000000) : bits BinOp.and IntKind.i64 n 63 = n % 64 := bits_mask .i64 63 (by decide) wraps_i64 6 (by decide) n h0 (by omega)
theorem or128 (n : Int) (h0 : 0 ≤ n) (h1 : n < 64) : bits BinOp.or IntKind.i64 128 n = 128 + n := by
  refine bits_join .i64 63 (by decide) wraps_i64 6 128 n ?_ ?_ ?_ ?_ ?_ ?_ <;> first | omega | decide
theorem or192 (n : Int) (h0 : 0 ≤ n) (h1 : n < 32) : bits BinOp.or IntKind.i64 192 n = 192 + n := by
  refine bits_join .i64 63 (by decide) wraps_i64 5 192 n ?_ ?_ ?_ ?_ ?_ ?_ <;> first | omega | decide
theorem or224 (n : Int) (h0 : 0 ≤ n) (h1 : n < 16) : bits BinOp.or IntKind.i64 224 n = 224 + n := by
  refine bits_join .i64 63 (by decide) wraps_i64 4 224 n ?_ ?_ ?_ ?_ ?_ ?_ <;> first | omega | decide
theorem or240 (n : Int) (h0 : 0 ≤ n) (h1 : n < 8) : bits BinOp.or IntKind.i64 240 n = 240 + n := by
  refine bits_join .i64 63 (by decide) wraps_i64 3 240 n ?_ ?_ ?_ ?_ ?_ ?_ <;> first | omega | decide
theorem or0 (n : Int) (h0 : 0 ≤ n) (h1 : n < 128) : bits BinOp.or IntKind.i64 0 n = n := by
  have := bits_join .i64 63 (by decide) wraps_i64 7 0 n ?_ ?_ ?_ ?_ ?_ ?_ <;> first | omega | decide
def StrSaid (l : List UInt8) (w : World) (e : Ending) (w' : World) : Prop := e = .returned (.string ⟨l.toArray⟩) ∧ Below w.heap.size w w'
theorem str_said {l : List UInt8} {s : ByteArray} {w w' : World} (h : s.data.toList = l) (hb : Below w.heap.size w w') : StrSaid l w (.returned (.string s)) w' := ⟨by rw [← h], hb⟩
set_option maxHeartbeats 1000000 in
theorem enc_1 (n : Int) (w : World) (h0 : 0 ≤ n) (h1 : n < 128) (hp : S.point n = true) : Calls Try.prog 100 #[.int .i64 n] w (StrSaid (S.encode n) w) := by
  have hs : S.sizeOf n = 1 := by unfold S.sizeOf; (repeat' split) <;> omega
  have HE : Hid (S.encode n = [S.u8 n]) := Lib.hid (by unfold S.encode; rw [hp]; (repeat' split) <;> first | rfl | omega | contradiction)
  have hmk : ∀ w : World, (Instr.makeSlice 22 (.int .i64 1) (.int .i64 1)).run Try.prog w = .ok (.slice (some ⟨w.heap.size, 0, none⟩) 1 1) (w.alloc (.cells #[.int .u8 0] 5)) := fun _ => by kernel_rfl
  have hcv : (convert 22 9 (.slice (some ⟨w.heap.size, 0, none⟩) 1 1)).run Try.prog (w.alloc (.cells #[.int .u8 n] 5)) = _ := conv_back w _ _ [S.u8 n] 1 rfl (by simp; (repeat' constructor) <;> (rw [u8_nat]; omega; omega))
  have a1 := low6 n (by omega) (by omega)
  have a2 := or128 (n % 64) (by omega) (by omega)
  have a3 := low6 (n / 64) (by omega) (by omega)
  have a4 := or128 (n / 64 % 64) (by omega) (by omega)
  have a5 := low6 (n / 64 / 64) (by omega) (by omega)
  have a6 := or128 (n / 64 / 64 % 64) (by omega) (by omega)
  have b1 := or0 n (by omega) (by omega)
  go_enter Try.func100, Try.ntmps100
  go_wp2_with (first | (go_at_call 46; (with_reducible refine (point_any _ _).mono ?_); rintro e w' ⟨rfl, rfl⟩) | (go_at_call 47; (with_reducible refine (size_any _ _).mono ?_); rintro e w' ⟨rfl, rfl⟩))
  refine wp_loop_rounds 1 ?_
  iterate 1 (rw [rounds_succ]; go_wp2_with (go_at_call 45; (first | (with_reducible refine (lead_4 _).mono ?_) | (with_reducible refine (lead_3 _).mono ?_) | (with_reducible refine (lead_2 _).mono ?_) | (with_reducible refine (lead_1 _).mono ?_)); rintro e w' ⟨rfl, rfl⟩))
  go_ret
  exact str_said HE.out.symm ((Below.refl _ _).alloc (Nat.le_refl _) _)
set_option maxHeartbeats 1000000 in
theorem enc_2 (n : Int) (w : World) (h0 : 128 ≤ n) (h1 : n < 2048) (hp : S.point n = true) : Calls Try.prog 100 #[.int .i64 n] w (StrSaid (S.encode n) w) := by
  have hs : S.sizeOf n = 2 := by unfold S.sizeOf; (repeat' split) <;> omega
  have HE : Hid (S.encode n = [S.u8 (192 + n / 64), S.u8 (128 + n % 64)]) := Lib.hid (by unfold S.encode; rw [hp]; (repeat' split) <;> first | rfl | omega | contradiction)
  have hmk : ∀ w : World, (Instr.makeSlice 22 (.int .i64 2) (.int .i64 2)).run Try.prog w = .ok (.slice (some ⟨w.heap.size, 0, none⟩) 2 2) (w.alloc (.cells #[.int .u8 0, .int .u8 0] 5)) := fun _ => by kernel_rfl
  have hcv : (convert 22 9 (.slice (some ⟨w.heap.size, 0, none⟩) 2 2)).run Try.prog (w.alloc (.cells #[.int .u8 (192 + n / 64), .int .u8 (128 + n % 64)] 5)) = _ := conv_back w _ _ [S.u8 (192 + n / 64), S.u8 (128 + n % 64)] 2 rfl (by simp; (repeat' constructor) <;> (rw [u8_nat]; omega; omega))
  have a1 := low6 n (by omega) (by omega)
  have a2 := or128 (n % 64) (by omega) (by omega)
  have a3 := low6 (n / 64) (by omega) (by omega)
  have a4 := or128 (n / 64 % 64) (by omega) (by omega)
  have a5 := low6 (n / 64 / 64) (by omega) (by omega)
  have a6 := or128 (n / 64 / 64 % 64) (by omega) (by omega)
  have b1 := or192 (n / 64) (by omega) (by omega)
  go_enter Try.func100, Try.ntmps100
  go_wp2_with (first | (go_at_call 46; (with_reducible refine (point_any _ _).mono ?_); rintro e w' ⟨rfl, rfl⟩) | (go_at_call 47; (with_reducible refine (size_any _ _).mono ?_); rintro e w' ⟨rfl, rfl⟩))
  refine wp_loop_rounds 2 ?_
  iterate 2 (rw [rounds_succ]; go_wp2_with (go_at_call 45; (first | (with_reducible refine (lead_4 _).mono ?_) | (with_reducible refine (lead_3 _).mono ?_) | (with_reducible refine (lead_2 _).mono ?_) | (with_reducible refine (lead_1 _).mono ?_)); rintro e w' ⟨rfl, rfl⟩))
  go_ret
  exact str_said HE.out.symm ((Below.refl _ _).alloc (Nat.le_refl _) _)
set_option maxHeartbeats 1000000 in
theorem enc_3 (n : Int) (w : World) (h0 : 2048 ≤ n) (h1 : n < 65536) (hp : S.point n = true) : Calls Try.prog 100 #[.int .i64 n] w (StrSaid (S.encode n) w) := by
  have hs : S.sizeOf n = 3 := by unfold S.sizeOf; (repeat' split) <;> omega
  have HE : Hid (S.encode n = [S.u8 (224 + n / 64 / 64), S.u8 (128 + n / 64 % 64), S.u8 (128 + n % 64)]) := Lib.hid (by unfold S.encode; rw [hp]; (repeat' split) <;> first | rfl | omega | contradiction)
  have hmk : ∀ w : World, (Instr.makeSlice 22 (.int .i64 3) (.int .i64 3)).run Try.prog w = .ok (.slice (some ⟨w.heap.size, 0, none⟩) 3 3) (w.alloc (.cells #[.int .u8 0, .int .u8 0, .int .u8 0] 5)) := fun _ => by kernel_rfl
  have hcv : (convert 22 9 (.slice (some ⟨w.heap.size, 0, none⟩) 3 3)).run Try.prog (w.alloc (.cells #[.int .u8 (224 + n / 64 / 64), .int .u8 (128 + n / 64 % 64), .int .u8 (128 + n % 64)] 5)) = _ := conv_back w _ _ [S.u8 (224 + n / 64 / 64), S.u8 (128 + n / 64 % 64), S.u8 (128 + n % 64)] 3 rfl (by simp; (repeat' constructor) <;> (rw [u8_nat]; omega; omega))
  have a1 := low6 n (by omega) (by omega)
  have a2 := or128 (n % 64) (by omega) (by omega)
  have a3 := low6 (n / 64) (by omega) (by omega)
  have a4 := or128 (n / 64 % 64) (by omega) (by omega)
  have a5 := low6 (n / 64 / 64) (by omega) (by omega)
  have a6 := or128 (n / 64 / 64 % 64) (by omega) (by omega)
  have b1 := or224 (n / 64 / 64) (by omega) (by omega)
  go_enter Try.func100, Try.ntmps100
  go_wp2_with (first | (go_at_call 46; (with_reducible refine (point_any _ _).mono ?_); rintro e w' ⟨rfl, rfl⟩) | (go_at_call 47; (with_reducible refine (size_any _ _).mono ?_); rintro e w' ⟨rfl, rfl⟩))
  refine wp_loop_rounds 3 ?_
  iterate 3 (rw [rounds_succ]; go_wp2_with (go_at_call 45; (first | (with_reducible refine (lead_4 _).mono ?_) | (with_reducible refine (lead_3 _).mono ?_) | (with_reducible refine (lead_2 _).mono ?_) | (with_reducible refine (lead_1 _).mono ?_)); rintro e w' ⟨rfl, rfl⟩))
  go_ret
  exact str_said HE.out.symm ((Below.refl _ _).alloc (Nat.le_refl _) _)
set_option maxHeartbeats 1000000 in
theorem enc_4 (n : Int) (w : World) (h0 : 65536 ≤ n) (h1 : n < 1114112) (hp : S.point n = true) : Calls Try.prog 100 #[.int .i64 n] w (StrSaid (S.encode n) w) := by
  have hs : S.sizeOf n = 4 := by unfold S.sizeOf; (repeat' split) <;> omega
  have HE : Hid (S.encode n = [S.u8 (240 + n / 64 / 64 / 64), S.u8 (128 + n / 64 / 64 % 64), S.u8 (128 + n / 64 % 64), S.u8 (128 + n % 64)]) := Lib.hid (by unfold S.encode; rw [hp]; (repeat' split) <;> first | rfl | omega | contradiction)
  have hmk : ∀ w : World, (Instr.makeSlice 22 (.int .i64 4) (.int .i64 4)).run Try.prog w = .ok (.slice (some ⟨w.heap.size, 0, none⟩) 4 4) (w.alloc (.cells #[.int .u8 0, .int .u8 0, .int .u8 0, .int .u8 0] 5)) := fun _ => by kernel_rfl
  have hcv : (convert 22 9 (.slice (some ⟨w.heap.size, 0, none⟩) 4 4)).run Try.prog (w.alloc (.cells #[.int .u8 (240 + n / 64 / 64 / 64), .int .u8 (128 + n / 64 / 64 % 64), .int .u8 (128 + n / 64 % 64), .int .u8 (128 + n % 64)] 5)) = _ := conv_back w _ _ [S.u8 (240 + n / 64 / 64 / 64), S.u8 (128 + n / 64 / 64 % 64), S.u8 (128 + n / 64 % 64), S.u8 (128 + n % 64)] 4 rfl (by simp; (repeat' constructor) <;> (rw [u8_nat]; omega; omega))
  have a1 := low6 n (by omega) (by omega)
  have a2 := or128 (n % 64) (by omega) (by omega)
  have a3 := low6 (n / 64) (by omega) (by omega)
  have a4 := or128 (n / 64 % 64) (by omega) (by omega)
  have a5 := low6 (n / 64 / 64) (by omega) (by omega)
  have a6 := or128 (n / 64 / 64 % 64) (by omega) (by omega)
  have b1 := or240 (n / 64 / 64 / 64) (by omega) (by omega)
  go_enter Try.func100, Try.ntmps100
  go_wp2_with (first | (go_at_call 46; (with_reducible refine (point_any _ _).mono ?_); rintro e w' ⟨rfl, rfl⟩) | (go_at_call 47; (with_reducible refine (size_any _ _).mono ?_); rintro e w' ⟨rfl, rfl⟩))
  refine wp_loop_rounds 4 ?_
  iterate 4 (rw [rounds_succ]; go_wp2_with (go_at_call 45; (first | (with_reducible refine (lead_4 _).mono ?_) | (with_reducible refine (lead_3 _).mono ?_) | (with_reducible refine (lead_2 _).mono ?_) | (with_reducible refine (lead_1 _).mono ?_)); rintro e w' ⟨rfl, rfl⟩))
  go_ret
  exact str_said HE.out.symm ((Below.refl _ _).alloc (Nat.le_refl _) _)
set_option maxHeartbeats 1000000 in
theorem enc_any (n : Int) (w : World) : Calls Try.prog 100 #[.int .i64 n] w (StrSaid (S.encode n) w) := by
  by_cases hp : S.point n = true
  · have hq := hp
    unfold S.point at hq
    simp at hq
    by_cases h1 : n < 128
    · exact enc_1 n w (by omega) h1 hp
    by_cases h2 : n < 2048
    · exact enc_2 n w (by omega) h2 hp
    by_cases h3 : n < 65536
    · exact enc_3 n w (by omega) h3 hp
    · exact enc_4 n w (by omega) (by omega) hp
  · have hp' := Bool.eq_false_iff.2 hp; clear hp
    have HP := Lib.hid hp'
    go_enter Try.func100, Try.ntmps100
    go_wp2_with (first | (go_at_call 46; (with_reducible refine (point_any _ _).mono ?_); rintro e w' ⟨rfl, rfl⟩) | (go_at_call 47; (with_reducible refine (size_any _ _).mono ?_); rintro e w' ⟨rfl, rfl⟩))
    go_ret
    exact str_said (by unfold S.encode; rw [HP.out]; rfl) (Below.refl _ _)
end Go.Proofs.Ytpfalkdkiffipaa
