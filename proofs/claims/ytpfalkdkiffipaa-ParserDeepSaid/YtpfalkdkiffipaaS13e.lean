/- Plain: the chapter's examples of the parser. -/
import Derived.Test.YtpfalkdkiffipaaS13c
import Derived.KernelRfl
namespace Go.Proofs.Ytpfalkdkiffipaa
namespace S
def awake1 : B := [60, 97, 32, 98, 61, 39, 49, 39, 62, 120, 60, 99, 47, 62, 121, 60, 47, 97, 62]
def awake2 : B := [60, 97, 62, 60, 98, 62, 60, 47, 97, 62, 60, 47, 98, 62]
theorem lx_awake1 : lx awake1 = some [⟨1, [97], []⟩, ⟨2, [98], [49]⟩, ⟨3, [], []⟩, ⟨6, [], [120]⟩, ⟨1, [99], []⟩, ⟨4, [], []⟩, ⟨6, [], [121]⟩, ⟨5, [97], []⟩] := by kernel_rfl
theorem lx_awake2 : lx awake2 = some [⟨1, [97], []⟩, ⟨3, [], []⟩, ⟨1, [98], []⟩, ⟨3, [], []⟩, ⟨5, [97], []⟩, ⟨5, [98], []⟩] := by kernel_rfl
theorem parse_awake1 : parse awake1 = .ok ([[97], [98], [99]], [⟨1, 0, -1, []⟩, ⟨2, 1, 0, [49]⟩, ⟨3, -1, 0, [120]⟩, ⟨1, 2, 0, []⟩, ⟨3, -1, 0, [121]⟩]) := by
  rw [parse_L]
  unfold parseL
  rw [if_neg (by decide), if_neg (by rw [show valid awake1 = true from by kernel_rfl]; simp), lx_awake1]
  have e : (([⟨1, [97], []⟩, ⟨2, [98], [49]⟩, ⟨3, [], []⟩, ⟨6, [], [120]⟩, ⟨1, [99], []⟩, ⟨4, [], []⟩, ⟨6, [], [121]⟩, ⟨5, [97], []⟩] : List Pc).foldl St.stepP St.new).flush = ⟨[⟨1, 0, -1, []⟩, ⟨2, 0, 0, [49]⟩, ⟨3, -1, 0, [120]⟩, ⟨1, 0, 0, []⟩, ⟨3, -1, 0, [121]⟩], [[97], [98], [], [99], []], [], [], false, false⟩ := by kernel_rfl
  simp only []
  rw [e]
  have hk : (⟨[⟨1, 0, -1, []⟩, ⟨2, 0, 0, [49]⟩, ⟨3, -1, 0, [120]⟩, ⟨1, 0, 0, []⟩, ⟨3, -1, 0, [121]⟩], [[97], [98], [], [99], []], [], [], false, false⟩ : St).keys = [[97], [98], [99]] := by
    unfold St.keys
    have e2 : ((((⟨[⟨1, 0, -1, []⟩, ⟨2, 0, 0, [49]⟩, ⟨3, -1, 0, [120]⟩, ⟨1, 0, 0, []⟩, ⟨3, -1, 0, [121]⟩], [[97], [98], [], [99], []], [], [], false, false⟩ : St).nodes.zip [[97], [98], [], [99], []]).filter fun x => x.1.kind != 3).map (·.2)).eraseDups = ([[97], [98], [99]] : List B) := by kernel_rfl
    show List.mergeSort _ _ = _
    rw [e2]
    exact List.mergeSort_of_pairwise (by decide)
  unfold St.tree
  rw [hk, if_neg (by simp), if_neg (by simp)]
  refine congrArg Except.ok (congrArg (Prod.mk _) ?_)
  kernel_rfl
theorem parse_awake2 : parse awake2 = .error 15 := by
  rw [parse_L]
  unfold parseL
  rw [if_neg (by decide), if_neg (by rw [show valid awake2 = true from by kernel_rfl]; simp), lx_awake2]
  have e : (([⟨1, [97], []⟩, ⟨3, [], []⟩, ⟨1, [98], []⟩, ⟨3, [], []⟩, ⟨5, [97], []⟩, ⟨5, [98], []⟩] : List Pc).foldl St.stepP St.new).flush.wrong = true := by kernel_rfl
  simp only []
  unfold St.tree
  rw [if_pos (.inl e)]
end S
end Go.Proofs.Ytpfalkdkiffipaa
