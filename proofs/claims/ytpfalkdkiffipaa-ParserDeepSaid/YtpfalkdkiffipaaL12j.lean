/- The lexer's steps: which one is next. -/
import Derived.Test.YtpfalkdkiffipaaL12i
namespace Go.Proofs.Ytpfalkdkiffipaa
open Go.RowKit
set_option maxRecDepth 100000
attribute [local go_sem] byt_at byt_wrap cell_lit
set_option maxHeartbeats 1000000 in
theorem begins_any (b bx : Nat) (doc s : ByteArray) (p : Nat) (ts : List S.Tok) (wr : Bool) (w : World) (h : Rd b doc p ts wr w) (hp : p ≤ doc.size) (hx : w.cell? ⟨bx, 0, none⟩ = some (.pointer (some ⟨b, 0, none⟩))) :
    Calls Try.prog 29 #[.string s, .pointer (some ⟨bx, 0, none⟩)] w fun e w' => e = .returned (.bool (Lib.hasPrefix (doc.data.toList.drop p) s.data.toList)) ∧ ∃ n, w' = w.drewN n := by
  have HS := Lib.hid (fun n => stands_any b doc s p p ts wr (w.drewN n) (h.ext (Below.drewN (Below.refl _ _) n)) (by omega) (by omega))
  obtain ⟨v, hrd⟩ := h
  obtain ⟨c0, c1, c2, c3⟩ := hrd.cells
  clear hrd
  go_enter Try.func29, Try.ntmps29
  go_wp2
  go_quiet ((go_at_call 30; exact Calls.quiet_of (HS.out _)))
  go_wp2
  go_ret
  exact ⟨by simp, _, rfl⟩
theorem begins_at (b bx : Nat) (doc s : ByteArray) (p : Nat) (ts : List S.Tok) (wr x : Bool) (w : World) (h : Rd b doc p ts wr w) (hp : p ≤ doc.size) (hx : w.cell? ⟨bx, 0, none⟩ = some (.pointer (some ⟨b, 0, none⟩))) (hq : Lib.hasPrefix (doc.data.toList.drop p) s.data.toList = x) :
    Calls Try.prog 29 #[.string s, .pointer (some ⟨bx, 0, none⟩)] w fun e w' => e = .returned (.bool x) ∧ ∃ n, w' = w.drewN n := by
  subst hq; exact begins_any b bx doc s p ts wr w h hp hx
set_option maxHeartbeats 1000000 in
theorem next_comment (b : Nat) (doc : ByteArray) (p : Nat) (ts : List S.Tok) (w : World) (h : Rd b doc p ts false w) (hp : p ≤ doc.size)
    (h1 : Lib.hasPrefix (doc.data.toList.drop p) [60, 33, 45, 45] = true ∨ 1 < 1) (h2 : Lib.hasPrefix (doc.data.toList.drop p) [60, 33, 91, 67, 68, 65, 84, 65, 91] = true ∨ 1 < 2) (h3 : Lib.hasPrefix (doc.data.toList.drop p) [60, 47] = true ∨ 1 < 3) (h4 : Lib.hasPrefix (doc.data.toList.drop p) [60] = true ∨ 1 < 4) :
    Calls Try.prog 19 #[.pointer (some ⟨b, 0, none⟩)] w fun e w' => e = .returned (.func (.func 31) #[.pointer (some ⟨b, 0, none⟩)] #[]) ∧ Below w.heap.size w w' := by
  have hR : ∀ n, Rd b doc p ts false ((w.alloc (.cells #[.pointer (some ⟨b, 0, none⟩)] 50)).drewN n) := fun n => h.ext (Below.drewN ((Below.refl _ _).alloc (Nat.le_refl _) _) n)
  have hX : ∀ n, ((w.alloc (.cells #[.pointer (some ⟨b, 0, none⟩)] 50)).drewN n).cell? ⟨w.heap.size, 0, none⟩ = some (.pointer (some ⟨b, 0, none⟩)) := fun n => by
    show (w.alloc (.cells #[.pointer (some ⟨b, 0, none⟩)] 50)).cell? ⟨w.heap.size, 0, none⟩ = _
    rw [World.cell?_alloc_new]; rfl
  have HRX := Lib.hid (And.intro hR hX)
  have HE := Lib.hid (fun n => Below.drewN ((Below.refl w.heap.size w).alloc (Nat.le_refl _) (.cells #[.pointer (some ⟨b, 0, none⟩)] 50)) n)
  have HP := Lib.hid (And.intro h1 (And.intro h2 (And.intro h3 h4)))
  clear hR hX h1 h2 h3 h4 h
  go_enter Try.func19, Try.ntmps19
  go_wp2_with fail
  refine (begins_at b _ doc _ p ts false _ _ (by exact HRX.out.1 0) hp (by exact HRX.out.2 0) (HP.out.1.resolve_right (by omega))).mono ?_; rintro e w' ⟨rfl, n1, rfl⟩; go_wp2_with fail
  go_ret
  exact ⟨rfl, HE.out n1⟩
set_option maxHeartbeats 1000000 in
theorem next_plain (b : Nat) (doc : ByteArray) (p : Nat) (ts : List S.Tok) (w : World) (h : Rd b doc p ts false w) (hp : p ≤ doc.size)
    (h1 : Lib.hasPrefix (doc.data.toList.drop p) [60, 33, 45, 45] = false ∨ 2 < 1) (h2 : Lib.hasPrefix (doc.data.toList.drop p) [60, 33, 91, 67, 68, 65, 84, 65, 91] = true ∨ 2 < 2) (h3 : Lib.hasPrefix (doc.data.toList.drop p) [60, 47] = true ∨ 2 < 3) (h4 : Lib.hasPrefix (doc.data.toList.drop p) [60] = true ∨ 2 < 4) :
    Calls Try.prog 19 #[.pointer (some ⟨b, 0, none⟩)] w fun e w' => e = .returned (.func (.func 32) #[.pointer (some ⟨b, 0, none⟩)] #[]) ∧ Below w.heap.size w w' := by
  have hR : ∀ n, Rd b doc p ts false ((w.alloc (.cells #[.pointer (some ⟨b, 0, none⟩)] 50)).drewN n) := fun n => h.ext (Below.drewN ((Below.refl _ _).alloc (Nat.le_refl _) _) n)
  have hX : ∀ n, ((w.alloc (.cells #[.pointer (some ⟨b, 0, none⟩)] 50)).drewN n).cell? ⟨w.heap.size, 0, none⟩ = some (.pointer (some ⟨b, 0, none⟩)) := fun n => by
    show (w.alloc (.cells #[.pointer (some ⟨b, 0, none⟩)] 50)).cell? ⟨w.heap.size, 0, none⟩ = _
    rw [World.cell?_alloc_new]; rfl
  have HRX := Lib.hid (And.intro hR hX)
  have HE := Lib.hid (fun n => Below.drewN ((Below.refl w.heap.size w).alloc (Nat.le_refl _) (.cells #[.pointer (some ⟨b, 0, none⟩)] 50)) n)
  have HP := Lib.hid (And.intro h1 (And.intro h2 (And.intro h3 h4)))
  clear hR hX h1 h2 h3 h4 h
  go_enter Try.func19, Try.ntmps19
  go_wp2_with fail
  refine (begins_at b _ doc _ p ts false _ _ (by exact HRX.out.1 0) hp (by exact HRX.out.2 0) (HP.out.1.resolve_right (by omega))).mono ?_; rintro e w' ⟨rfl, n1, rfl⟩; go_wp2_with fail; refine (begins_at b _ doc _ p ts false _ _ (by exact HRX.out.1 _) hp (by exact HRX.out.2 _) (HP.out.2.1.resolve_right (by omega))).mono ?_; rintro e w' ⟨rfl, n2, rfl⟩; go_wp2_with fail
  go_ret
  exact ⟨rfl, HE.out (n1 + n2)⟩
set_option maxHeartbeats 1000000 in
theorem next_closing (b : Nat) (doc : ByteArray) (p : Nat) (ts : List S.Tok) (w : World) (h : Rd b doc p ts false w) (hp : p ≤ doc.size)
    (h1 : Lib.hasPrefix (doc.data.toList.drop p) [60, 33, 45, 45] = false ∨ 3 < 1) (h2 : Lib.hasPrefix (doc.data.toList.drop p) [60, 33, 91, 67, 68, 65, 84, 65, 91] = false ∨ 3 < 2) (h3 : Lib.hasPrefix (doc.data.toList.drop p) [60, 47] = true ∨ 3 < 3) (h4 : Lib.hasPrefix (doc.data.toList.drop p) [60] = true ∨ 3 < 4) :
    Calls Try.prog 19 #[.pointer (some ⟨b, 0, none⟩)] w fun e w' => e = .returned (.func (.func 33) #[.pointer (some ⟨b, 0, none⟩)] #[]) ∧ Below w.heap.size w w' := by
  have hR : ∀ n, Rd b doc p ts false ((w.alloc (.cells #[.pointer (some ⟨b, 0, none⟩)] 50)).drewN n) := fun n => h.ext (Below.drewN ((Below.refl _ _).alloc (Nat.le_refl _) _) n)
  have hX : ∀ n, ((w.alloc (.cells #[.pointer (some ⟨b, 0, none⟩)] 50)).drewN n).cell? ⟨w.heap.size, 0, none⟩ = some (.pointer (some ⟨b, 0, none⟩)) := fun n => by
    show (w.alloc (.cells #[.pointer (some ⟨b, 0, none⟩)] 50)).cell? ⟨w.heap.size, 0, none⟩ = _
    rw [World.cell?_alloc_new]; rfl
  have HRX := Lib.hid (And.intro hR hX)
  have HE := Lib.hid (fun n => Below.drewN ((Below.refl w.heap.size w).alloc (Nat.le_refl _) (.cells #[.pointer (some ⟨b, 0, none⟩)] 50)) n)
  have HP := Lib.hid (And.intro h1 (And.intro h2 (And.intro h3 h4)))
  clear hR hX h1 h2 h3 h4 h
  go_enter Try.func19, Try.ntmps19
  go_wp2_with fail
  refine (begins_at b _ doc _ p ts false _ _ (by exact HRX.out.1 0) hp (by exact HRX.out.2 0) (HP.out.1.resolve_right (by omega))).mono ?_; rintro e w' ⟨rfl, n1, rfl⟩; go_wp2_with fail; refine (begins_at b _ doc _ p ts false _ _ (by exact HRX.out.1 _) hp (by exact HRX.out.2 _) (HP.out.2.1.resolve_right (by omega))).mono ?_; rintro e w' ⟨rfl, n2, rfl⟩; go_wp2_with fail; refine (begins_at b _ doc _ p ts false _ _ (by exact HRX.out.1 _) hp (by exact HRX.out.2 _) (HP.out.2.2.1.resolve_right (by omega))).mono ?_; rintro e w' ⟨rfl, n3, rfl⟩; go_wp2_with fail
  go_ret
  exact ⟨rfl, HE.out (n1 + n2 + n3)⟩
set_option maxHeartbeats 1000000 in
theorem next_tag (b : Nat) (doc : ByteArray) (p : Nat) (ts : List S.Tok) (w : World) (h : Rd b doc p ts false w) (hp : p ≤ doc.size)
    (h1 : Lib.hasPrefix (doc.data.toList.drop p) [60, 33, 45, 45] = false ∨ 4 < 1) (h2 : Lib.hasPrefix (doc.data.toList.drop p) [60, 33, 91, 67, 68, 65, 84, 65, 91] = false ∨ 4 < 2) (h3 : Lib.hasPrefix (doc.data.toList.drop p) [60, 47] = false ∨ 4 < 3) (h4 : Lib.hasPrefix (doc.data.toList.drop p) [60] = true ∨ 4 < 4) :
    Calls Try.prog 19 #[.pointer (some ⟨b, 0, none⟩)] w fun e w' => e = .returned (.func (.func 34) #[.pointer (some ⟨b, 0, none⟩)] #[]) ∧ Below w.heap.size w w' := by
  have hR : ∀ n, Rd b doc p ts false ((w.alloc (.cells #[.pointer (some ⟨b, 0, none⟩)] 50)).drewN n) := fun n => h.ext (Below.drewN ((Below.refl _ _).alloc (Nat.le_refl _) _) n)
  have hX : ∀ n, ((w.alloc (.cells #[.pointer (some ⟨b, 0, none⟩)] 50)).drewN n).cell? ⟨w.heap.size, 0, none⟩ = some (.pointer (some ⟨b, 0, none⟩)) := fun n => by
    show (w.alloc (.cells #[.pointer (some ⟨b, 0, none⟩)] 50)).cell? ⟨w.heap.size, 0, none⟩ = _
    rw [World.cell?_alloc_new]; rfl
  have HRX := Lib.hid (And.intro hR hX)
  have HE := Lib.hid (fun n => Below.drewN ((Below.refl w.heap.size w).alloc (Nat.le_refl _) (.cells #[.pointer (some ⟨b, 0, none⟩)] 50)) n)
  have HP := Lib.hid (And.intro h1 (And.intro h2 (And.intro h3 h4)))
  clear hR hX h1 h2 h3 h4 h
  go_enter Try.func19, Try.ntmps19
  go_wp2_with fail
  refine (begins_at b _ doc _ p ts false _ _ (by exact HRX.out.1 0) hp (by exact HRX.out.2 0) (HP.out.1.resolve_right (by omega))).mono ?_; rintro e w' ⟨rfl, n1, rfl⟩; go_wp2_with fail; refine (begins_at b _ doc _ p ts false _ _ (by exact HRX.out.1 _) hp (by exact HRX.out.2 _) (HP.out.2.1.resolve_right (by omega))).mono ?_; rintro e w' ⟨rfl, n2, rfl⟩; go_wp2_with fail; refine (begins_at b _ doc _ p ts false _ _ (by exact HRX.out.1 _) hp (by exact HRX.out.2 _) (HP.out.2.2.1.resolve_right (by omega))).mono ?_; rintro e w' ⟨rfl, n3, rfl⟩; go_wp2_with fail; refine (begins_at b _ doc _ p ts false _ _ (by exact HRX.out.1 _) hp (by exact HRX.out.2 _) (HP.out.2.2.2.resolve_right (by omega))).mono ?_; rintro e w' ⟨rfl, n4, rfl⟩; go_wp2_with fail
  go_ret
  exact ⟨rfl, HE.out (n1 + n2 + n3 + n4)⟩
set_option maxHeartbeats 1000000 in
theorem next_text (b : Nat) (doc : ByteArray) (p : Nat) (ts : List S.Tok) (w : World) (h : Rd b doc p ts false w) (hp : p ≤ doc.size)
    (h1 : Lib.hasPrefix (doc.data.toList.drop p) [60, 33, 45, 45] = false ∨ 4 < 1) (h2 : Lib.hasPrefix (doc.data.toList.drop p) [60, 33, 91, 67, 68, 65, 84, 65, 91] = false ∨ 4 < 2) (h3 : Lib.hasPrefix (doc.data.toList.drop p) [60, 47] = false ∨ 4 < 3) (h4 : Lib.hasPrefix (doc.data.toList.drop p) [60] = false ∨ 4 < 4) :
    Calls Try.prog 19 #[.pointer (some ⟨b, 0, none⟩)] w fun e w' => e = .returned (.func (.func 35) #[.pointer (some ⟨b, 0, none⟩)] #[]) ∧ Below w.heap.size w w' := by
  have hR : ∀ n, Rd b doc p ts false ((w.alloc (.cells #[.pointer (some ⟨b, 0, none⟩)] 50)).drewN n) := fun n => h.ext (Below.drewN ((Below.refl _ _).alloc (Nat.le_refl _) _) n)
  have hX : ∀ n, ((w.alloc (.cells #[.pointer (some ⟨b, 0, none⟩)] 50)).drewN n).cell? ⟨w.heap.size, 0, none⟩ = some (.pointer (some ⟨b, 0, none⟩)) := fun n => by
    show (w.alloc (.cells #[.pointer (some ⟨b, 0, none⟩)] 50)).cell? ⟨w.heap.size, 0, none⟩ = _
    rw [World.cell?_alloc_new]; rfl
  have HRX := Lib.hid (And.intro hR hX)
  have HE := Lib.hid (fun n => Below.drewN ((Below.refl w.heap.size w).alloc (Nat.le_refl _) (.cells #[.pointer (some ⟨b, 0, none⟩)] 50)) n)
  have HP := Lib.hid (And.intro h1 (And.intro h2 (And.intro h3 h4)))
  clear hR hX h1 h2 h3 h4 h
  go_enter Try.func19, Try.ntmps19
  go_wp2_with fail
  refine (begins_at b _ doc _ p ts false _ _ (by exact HRX.out.1 0) hp (by exact HRX.out.2 0) (HP.out.1.resolve_right (by omega))).mono ?_; rintro e w' ⟨rfl, n1, rfl⟩; go_wp2_with fail; refine (begins_at b _ doc _ p ts false _ _ (by exact HRX.out.1 _) hp (by exact HRX.out.2 _) (HP.out.2.1.resolve_right (by omega))).mono ?_; rintro e w' ⟨rfl, n2, rfl⟩; go_wp2_with fail; refine (begins_at b _ doc _ p ts false _ _ (by exact HRX.out.1 _) hp (by exact HRX.out.2 _) (HP.out.2.2.1.resolve_right (by omega))).mono ?_; rintro e w' ⟨rfl, n3, rfl⟩; go_wp2_with fail; refine (begins_at b _ doc _ p ts false _ _ (by exact HRX.out.1 _) hp (by exact HRX.out.2 _) (HP.out.2.2.2.resolve_right (by omega))).mono ?_; rintro e w' ⟨rfl, n4, rfl⟩; go_wp2_with fail
  go_ret
  exact ⟨rfl, HE.out (n1 + n2 + n3 + n4)⟩
end Go.Proofs.Ytpfalkdkiffipaa
