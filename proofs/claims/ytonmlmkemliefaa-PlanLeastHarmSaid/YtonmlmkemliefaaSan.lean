import Derived.Test.YtonmlmkemliefaaExample
import Derived.Test.YtonmlmkemliefaaPlain
namespace Go.Proofs.Ytonmlmkemliefaa
open Go.RowKit
theorem ex_best : bestOf exampleT = some ([0, 1], 5) := by kernel_rfl
theorem ex_len : (growL exampleT 5 exampleT [] 0 0).nodes.length = 7 := by kernel_rfl
theorem ex_valid : validT exampleT = 0 := by kernel_rfl
theorem ex_c5 : checkT exampleT 5 (growL exampleT 5 exampleT [] 0 0).nodes = 0 := by kernel_rfl
theorem ex_c6 : checkT exampleT 6 (growL exampleT 5 exampleT [] 0 0).nodes = 11 := by kernel_rfl
theorem ex_o0 : checkT exampleT 0 [⟨-1, [], -1, 0⟩] = 0 := by kernel_rfl
theorem ex_o1 : checkT exampleT 1 [⟨-1, [], -1, 0⟩] = 11 := by kernel_rfl
theorem ex_cl0 : clashT exampleT 0 1 1 0 = true := by kernel_rfl
theorem ex_cl1 : clashT exampleT 0 1 1 1 = false := by kernel_rfl
theorem ex_law : lawfulB exampleT [0, 1] = true := by kernel_rfl
theorem ex_kidsB : ((growL exampleT 5 exampleT [] 0 0).nodes.all fun n => decide (n.kids.length ≤ 65536)) = true := by kernel_rfl
theorem ex_kids : ∀ n ∈ (growL exampleT 5 exampleT [] 0 0).nodes, n.kids.length ≤ 65536 := fun n hn => by simpa using List.all_eq_true.1 ex_kidsB n hn
theorem ex_max : treeMax exampleT ≤ 65536 := by decide
end Go.Proofs.Ytonmlmkemliefaa
