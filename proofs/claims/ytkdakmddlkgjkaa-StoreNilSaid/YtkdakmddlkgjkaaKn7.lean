import Derived.Outline
import Derived.Test.YtkdakmddlkgjkaaSd
open Go.RowKit Go.Lib
namespace Go.Proofs.Ytkdakmddlkgjkaa
set_option maxRecDepth 100000
open Sha
/-! What must come of law07's fixed calls. -/
def kA : Kp := ⟨0, [97], sha [97]⟩
def kB : Kp := ⟨1, [98], sha [98]⟩
def kD1 : Ds := (sprep (Ds0 16) K0 [97]).2.1
def kD2 : Ds := (app kD1 (kA.ent 2)).2.2
def kD3 : Ds := (sprep kD2 kA [98]).2.1
def kD4 : Ds := (kD3.fail 0).start
theorem kn_0 : sopen (Ds0 16) = (some (K0, false), 0) := by decide +kernel
theorem kn_1 : (sprep (Ds0 16) K0 [97]).1 = 0 ∧ (sprep (Ds0 16) K0 [97]).2.2 = some kA := by decide +kernel
theorem kn_2 : (app kD1 (kA.ent 2)).1 = 0 := by decide +kernel
theorem kn_3 : (sprep kD2 kA [98]).1 = 0 ∧ (sprep kD2 kA [98]).2.2 = some kB := by decide +kernel
theorem kn_4 : sopen kD4 = (some (kA, false), 0) := by decide +kernel
theorem kn_b : kD1.ops + 2 < 1000000000 ∧ kD1.gh + 1 < 1000000000 ∧ kD2.ops + 400 < 1000000000 ∧ kD2.gh + 400 < 1000000000 := by decide +kernel
end Go.Proofs.Ytkdakmddlkgjkaa
