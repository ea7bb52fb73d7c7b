/- The names of the kinds differ. Conditions: none. -/
import Derived.Test.YtmcloipjlihhlaaXU
namespace Go.Proofs.Ytmcloipjlihhlaa.N
open Go.X
theorem cndT {A B : Prop} : cnd true A B = A := propext ⟨fun h => h.1 rfl, fun h => ⟨fun _ => h, fun q => by cases q⟩⟩
theorem cndF {A B : Prop} : cnd false A B = B := propext ⟨fun h => h.2 rfl, fun h => ⟨fun q => (by cases q), fun _ => h⟩⟩
theorem nm_path_path : ((⟨#[112, 97, 116, 104]⟩ : ByteArray).toList == (⟨#[112, 97, 116, 104]⟩ : ByteArray).toList) = true := by decide +kernel
theorem nm_path_cycle : ((⟨#[112, 97, 116, 104]⟩ : ByteArray).toList == (⟨#[99, 121, 99, 108, 101]⟩ : ByteArray).toList) = false := by decide +kernel
theorem nm_path_complete : ((⟨#[112, 97, 116, 104]⟩ : ByteArray).toList == (⟨#[99, 111, 109, 112, 108, 101, 116, 101]⟩ : ByteArray).toList) = false := by decide +kernel
theorem nm_path_two : ((⟨#[112, 97, 116, 104]⟩ : ByteArray).toList == (⟨#[116, 119, 111]⟩ : ByteArray).toList) = false := by decide +kernel
theorem nm_path_grid : ((⟨#[112, 97, 116, 104]⟩ : ByteArray).toList == (⟨#[103, 114, 105, 100]⟩ : ByteArray).toList) = false := by decide +kernel
theorem nm_path_wheel : ((⟨#[112, 97, 116, 104]⟩ : ByteArray).toList == (⟨#[119, 104, 101, 101, 108]⟩ : ByteArray).toList) = false := by decide +kernel
theorem nm_path_prism : ((⟨#[112, 97, 116, 104]⟩ : ByteArray).toList == (⟨#[112, 114, 105, 115, 109]⟩ : ByteArray).toList) = false := by decide +kernel
theorem nm_path_bond : ((⟨#[112, 97, 116, 104]⟩ : ByteArray).toList == (⟨#[98, 111, 110, 100]⟩ : ByteArray).toList) = false := by decide +kernel
theorem nm_path_random : ((⟨#[112, 97, 116, 104]⟩ : ByteArray).toList == (⟨#[114, 97, 110, 100, 111, 109]⟩ : ByteArray).toList) = false := by decide +kernel
theorem nm_path_stack : ((⟨#[112, 97, 116, 104]⟩ : ByteArray).toList == (⟨#[115, 116, 97, 99, 107]⟩ : ByteArray).toList) = false := by decide +kernel
theorem nm_cycle_path : ((⟨#[99, 121, 99, 108, 101]⟩ : ByteArray).toList == (⟨#[112, 97, 116, 104]⟩ : ByteArray).toList) = false := by decide +kernel
theorem nm_cycle_cycle : ((⟨#[99, 121, 99, 108, 101]⟩ : ByteArray).toList == (⟨#[99, 121, 99, 108, 101]⟩ : ByteArray).toList) = true := by decide +kernel
theorem nm_cycle_complete : ((⟨#[99, 121, 99, 108, 101]⟩ : ByteArray).toList == (⟨#[99, 111, 109, 112, 108, 101, 116, 101]⟩ : ByteArray).toList) = false := by decide +kernel
theorem nm_cycle_two : ((⟨#[99, 121, 99, 108, 101]⟩ : ByteArray).toList == (⟨#[116, 119, 111]⟩ : ByteArray).toList) = false := by decide +kernel
theorem nm_cycle_grid : ((⟨#[99, 121, 99, 108, 101]⟩ : ByteArray).toList == (⟨#[103, 114, 105, 100]⟩ : ByteArray).toList) = false := by decide +kernel
theorem nm_cycle_wheel : ((⟨#[99, 121, 99, 108, 101]⟩ : ByteArray).toList == (⟨#[119, 104, 101, 101, 108]⟩ : ByteArray).toList) = false := by decide +kernel
theorem nm_cycle_prism : ((⟨#[99, 121, 99, 108, 101]⟩ : ByteArray).toList == (⟨#[112, 114, 105, 115, 109]⟩ : ByteArray).toList) = false := by decide +kernel
theorem nm_cycle_bond : ((⟨#[99, 121, 99, 108, 101]⟩ : ByteArray).toList == (⟨#[98, 111, 110, 100]⟩ : ByteArray).toList) = false := by decide +kernel
theorem nm_cycle_random : ((⟨#[99, 121, 99, 108, 101]⟩ : ByteArray).toList == (⟨#[114, 97, 110, 100, 111, 109]⟩ : ByteArray).toList) = false := by decide +kernel
theorem nm_cycle_stack : ((⟨#[99, 121, 99, 108, 101]⟩ : ByteArray).toList == (⟨#[115, 116, 97, 99, 107]⟩ : ByteArray).toList) = false := by decide +kernel
theorem nm_complete_path : ((⟨#[99, 111, 109, 112, 108, 101, 116, 101]⟩ : ByteArray).toList == (⟨#[112, 97, 116, 104]⟩ : ByteArray).toList) = false := by decide +kernel
theorem nm_complete_cycle : ((⟨#[99, 111, 109, 112, 108, 101, 116, 101]⟩ : ByteArray).toList == (⟨#[99, 121, 99, 108, 101]⟩ : ByteArray).toList) = false := by decide +kernel
theorem nm_complete_complete : ((⟨#[99, 111, 109, 112, 108, 101, 116, 101]⟩ : ByteArray).toList == (⟨#[99, 111, 109, 112, 108, 101, 116, 101]⟩ : ByteArray).toList) = true := by decide +kernel
theorem nm_complete_two : ((⟨#[99, 111, 109, 112, 108, 101, 116, 101]⟩ : ByteArray).toList == (⟨#[116, 119, 111]⟩ : ByteArray).toList) = false := by decide +kernel
theorem nm_complete_grid : ((⟨#[99, 111, 109, 112, 108, 101, 116, 101]⟩ : ByteArray).toList == (⟨#[103, 114, 105, 100]⟩ : ByteArray).toList) = false := by decide +kernel
theorem nm_complete_wheel : ((⟨#[99, 111, 109, 112, 108, 101, 116, 101]⟩ : ByteArray).toList == (⟨#[119, 104, 101, 101, 108]⟩ : ByteArray).toList) = false := by decide +kernel
theorem nm_complete_prism : ((⟨#[99, 111, 109, 112, 108, 101, 116, 101]⟩ : ByteArray).toList == (⟨#[112, 114, 105, 115, 109]⟩ : ByteArray).toList) = false := by decide +kernel
theorem nm_complete_bond : ((⟨#[99, 111, 109, 112, 108, 101, 116, 101]⟩ : ByteArray).toList == (⟨#[98, 111, 110, 100]⟩ : ByteArray).toList) = false := by decide +kernel
theorem nm_complete_random : ((⟨#[99, 111, 109, 112, 108, 101, 116, 101]⟩ : ByteArray).toList == (⟨#[114, 97, 110, 100, 111, 109]⟩ : ByteArray).toList) = false := by decide +kernel
theorem nm_complete_stack : ((⟨#[99, 111, 109, 112, 108, 101, 116, 101]⟩ : ByteArray).toList == (⟨#[115, 116, 97, 99, 107]⟩ : ByteArray).toList) = false := by decide +kernel
theorem nm_two_path : ((⟨#[116, 119, 111]⟩ : ByteArray).toList == (⟨#[112, 97, 116, 104]⟩ : ByteArray).toList) = false := by decide +kernel
theorem nm_two_cycle : ((⟨#[116, 119, 111]⟩ : ByteArray).toList == (⟨#[99, 121, 99, 108, 101]⟩ : ByteArray).toList) = false := by decide +kernel
theorem nm_two_complete : ((⟨#[116, 119, 111]⟩ : ByteArray).toList == (⟨#[99, 111, 109, 112, 108, 101, 116, 101]⟩ : ByteArray).toList) = false := by decide +kernel
theorem nm_two_two : ((⟨#[116, 119, 111]⟩ : ByteArray).toList == (⟨#[116, 119, 111]⟩ : ByteArray).toList) = true := by decide +kernel
theorem nm_two_grid : ((⟨#[116, 119, 111]⟩ : ByteArray).toList == (⟨#[103, 114, 105, 100]⟩ : ByteArray).toList) = false := by decide +kernel
theorem nm_two_wheel : ((⟨#[116, 119, 111]⟩ : ByteArray).toList == (⟨#[119, 104, 101, 101, 108]⟩ : ByteArray).toList) = false := by decide +kernel
theorem nm_two_prism : ((⟨#[116, 119, 111]⟩ : ByteArray).toList == (⟨#[112, 114, 105, 115, 109]⟩ : ByteArray).toList) = false := by decide +kernel
theorem nm_two_bond : ((⟨#[116, 119, 111]⟩ : ByteArray).toList == (⟨#[98, 111, 110, 100]⟩ : ByteArray).toList) = false := by decide +kernel
theorem nm_two_random : ((⟨#[116, 119, 111]⟩ : ByteArray).toList == (⟨#[114, 97, 110, 100, 111, 109]⟩ : ByteArray).toList) = false := by decide +kernel
theorem nm_two_stack : ((⟨#[116, 119, 111]⟩ : ByteArray).toList == (⟨#[115, 116, 97, 99, 107]⟩ : ByteArray).toList) = false := by decide +kernel
theorem nm_grid_path : ((⟨#[103, 114, 105, 100]⟩ : ByteArray).toList == (⟨#[112, 97, 116, 104]⟩ : ByteArray).toList) = false := by decide +kernel
theorem nm_grid_cycle : ((⟨#[103, 114, 105, 100]⟩ : ByteArray).toList == (⟨#[99, 121, 99, 108, 101]⟩ : ByteArray).toList) = false := by decide +kernel
theorem nm_grid_complete : ((⟨#[103, 114, 105, 100]⟩ : ByteArray).toList == (⟨#[99, 111, 109, 112, 108, 101, 116, 101]⟩ : ByteArray).toList) = false := by decide +kernel
theorem nm_grid_two : ((⟨#[103, 114, 105, 100]⟩ : ByteArray).toList == (⟨#[116, 119, 111]⟩ : ByteArray).toList) = false := by decide +kernel
theorem nm_grid_grid : ((⟨#[103, 114, 105, 100]⟩ : ByteArray).toList == (⟨#[103, 114, 105, 100]⟩ : ByteArray).toList) = true := by decide +kernel
theorem nm_grid_wheel : ((⟨#[103, 114, 105, 100]⟩ : ByteArray).toList == (⟨#[119, 104, 101, 101, 108]⟩ : ByteArray).toList) = false := by decide +kernel
theorem nm_grid_prism : ((⟨#[103, 114, 105, 100]⟩ : ByteArray).toList == (⟨#[112, 114, 105, 115, 109]⟩ : ByteArray).toList) = false := by decide +kernel
theorem nm_grid_bond : ((⟨#[103, 114, 105, 100]⟩ : ByteArray).toList == (⟨#[98, 111, 110, 100]⟩ : ByteArray).toList) = false := by decide +kernel
theorem nm_grid_random : ((⟨#[103, 114, 105, 100]⟩ : ByteArray).toList == (⟨#[114, 97, 110, 100, 111, 109]⟩ : ByteArray).toList) = false := by decide +kernel
theorem nm_grid_stack : ((⟨#[103, 114, 105, 100]⟩ : ByteArray).toList == (⟨#[115, 116, 97, 99, 107]⟩ : ByteArray).toList) = false := by decide +kernel
theorem nm_wheel_path : ((⟨#[119, 104, 101, 101, 108]⟩ : ByteArray).toList == (⟨#[112, 97, 116, 104]⟩ : ByteArray).toList) = false := by decide +kernel
theorem nm_wheel_cycle : ((⟨#[119, 104, 101, 101, 108]⟩ : ByteArray).toList == (⟨#[99, 121, 99, 108, 101]⟩ : ByteArray).toList) = false := by decide +kernel
theorem nm_wheel_complete : ((⟨#[119, 104, 101, 101, 108]⟩ : ByteArray).toList == (⟨#[99, 111, 109, 112, 108, 101, 116, 101]⟩ : ByteArray).toList) = false := by decide +kernel
theorem nm_wheel_two : ((⟨#[119, 104, 101, 101, 108]⟩ : ByteArray).toList == (⟨#[116, 119, 111]⟩ : ByteArray).toList) = false := by decide +kernel
theorem nm_wheel_grid : ((⟨#[119, 104, 101, 101, 108]⟩ : ByteArray).toList == (⟨#[103, 114, 105, 100]⟩ : ByteArray).toList) = false := by decide +kernel
theorem nm_wheel_wheel : ((⟨#[119, 104, 101, 101, 108]⟩ : ByteArray).toList == (⟨#[119, 104, 101, 101, 108]⟩ : ByteArray).toList) = true := by decide +kernel
theorem nm_wheel_prism : ((⟨#[119, 104, 101, 101, 108]⟩ : ByteArray).toList == (⟨#[112, 114, 105, 115, 109]⟩ : ByteArray).toList) = false := by decide +kernel
theorem nm_wheel_bond : ((⟨#[119, 104, 101, 101, 108]⟩ : ByteArray).toList == (⟨#[98, 111, 110, 100]⟩ : ByteArray).toList) = false := by decide +kernel
theorem nm_wheel_random : ((⟨#[119, 104, 101, 101, 108]⟩ : ByteArray).toList == (⟨#[114, 97, 110, 100, 111, 109]⟩ : ByteArray).toList) = false := by decide +kernel
theorem nm_wheel_stack : ((⟨#[119, 104, 101, 101, 108]⟩ : ByteArray).toList == (⟨#[115, 116, 97, 99, 107]⟩ : ByteArray).toList) = false := by decide +kernel
theorem nm_prism_path : ((⟨#[112, 114, 105, 115, 109]⟩ : ByteArray).toList == (⟨#[112, 97, 116, 104]⟩ : ByteArray).toList) = false := by decide +kernel
theorem nm_prism_cycle : ((⟨#[112, 114, 105, 115, 109]⟩ : ByteArray).toList == (⟨#[99, 121, 99, 108, 101]⟩ : ByteArray).toList) = false := by decide +kernel
theorem nm_prism_complete : ((⟨#[112, 114, 105, 115, 109]⟩ : ByteArray).toList == (⟨#[99, 111, 109, 112, 108, 101, 116, 101]⟩ : ByteArray).toList) = false := by decide +kernel
theorem nm_prism_two : ((⟨#[112, 114, 105, 115, 109]⟩ : ByteArray).toList == (⟨#[116, 119, 111]⟩ : ByteArray).toList) = false := by decide +kernel
theorem nm_prism_grid : ((⟨#[112, 114, 105, 115, 109]⟩ : ByteArray).toList == (⟨#[103, 114, 105, 100]⟩ : ByteArray).toList) = false := by decide +kernel
theorem nm_prism_wheel : ((⟨#[112, 114, 105, 115, 109]⟩ : ByteArray).toList == (⟨#[119, 104, 101, 101, 108]⟩ : ByteArray).toList) = false := by decide +kernel
theorem nm_prism_prism : ((⟨#[112, 114, 105, 115, 109]⟩ : ByteArray).toList == (⟨#[112, 114, 105, 115, 109]⟩ : ByteArray).toList) = true := by decide +kernel
theorem nm_prism_bond : ((⟨#[112, 114, 105, 115, 109]⟩ : ByteArray).toList == (⟨#[98, 111, 110, 100]⟩ : ByteArray).toList) = false := by decide +kernel
theorem nm_prism_random : ((⟨#[112, 114, 105, 115, 109]⟩ : ByteArray).toList == (⟨#[114, 97, 110, 100, 111, 109]⟩ : ByteArray).toList) = false := by decide +kernel
theorem nm_prism_stack : ((⟨#[112, 114, 105, 115, 109]⟩ : ByteArray).toList == (⟨#[115, 116, 97, 99, 107]⟩ : ByteArray).toList) = false := by decide +kernel
theorem nm_bond_path : ((⟨#[98, 111, 110, 100]⟩ : ByteArray).toList == (⟨#[112, 97, 116, 104]⟩ : ByteArray).toList) = false := by decide +kernel
theorem nm_bond_cycle : ((⟨#[98, 111, 110, 100]⟩ : ByteArray).toList == (⟨#[99, 121, 99, 108, 101]⟩ : ByteArray).toList) = false := by decide +kernel
theorem nm_bond_complete : ((⟨#[98, 111, 110, 100]⟩ : ByteArray).toList == (⟨#[99, 111, 109, 112, 108, 101, 116, 101]⟩ : ByteArray).toList) = false := by decide +kernel
theorem nm_bond_two : ((⟨#[98, 111, 110, 100]⟩ : ByteArray).toList == (⟨#[116, 119, 111]⟩ : ByteArray).toList) = false := by decide +kernel
theorem nm_bond_grid : ((⟨#[98, 111, 110, 100]⟩ : ByteArray).toList == (⟨#[103, 114, 105, 100]⟩ : ByteArray).toList) = false := by decide +kernel
theorem nm_bond_wheel : ((⟨#[98, 111, 110, 100]⟩ : ByteArray).toList == (⟨#[119, 104, 101, 101, 108]⟩ : ByteArray).toList) = false := by decide +kernel
theorem nm_bond_prism : ((⟨#[98, 111, 110, 100]⟩ : ByteArray).toList == (⟨#[112, 114, 105, 115, 109]⟩ : ByteArray).toList) = false := by decide +kernel
theorem nm_bond_bond : ((⟨#[98, 111, 110, 100]⟩ : ByteArray).toList == (⟨#[98, 111, 110, 100]⟩ : ByteArray).toList) = true := by decide +kernel
theorem nm_bond_random : ((⟨#[98, 111, 110, 100]⟩ : ByteArray).toList == (⟨#[114, 97, 110, 100, 111, 109]⟩ : ByteArray).toList) = false := by decide +kernel
theorem nm_bond_stack : ((⟨#[98, 111, 110, 100]⟩ : ByteArray).toList == (⟨#[115, 116, 97, 99, 107]⟩ : ByteArray).toList) = false := by decide +kernel
theorem nm_random_path : ((⟨#[114, 97, 110, 100, 111, 109]⟩ : ByteArray).toList == (⟨#[112, 97, 116, 104]⟩ : ByteArray).toList) = false := by decide +kernel
theorem nm_random_cycle : ((⟨#[114, 97, 110, 100, 111, 109]⟩ : ByteArray).toList == (⟨#[99, 121, 99, 108, 101]⟩ : ByteArray).toList) = false := by decide +kernel
theorem nm_random_complete : ((⟨#[114, 97, 110, 100, 111, 109]⟩ : ByteArray).toList == (⟨#[99, 111, 109, 112, 108, 101, 116, 101]⟩ : ByteArray).toList) = false := by decide +kernel
theorem nm_random_two : ((⟨#[114, 97, 110, 100, 111, 109]⟩ : ByteArray).toList == (⟨#[116, 119, 111]⟩ : ByteArray).toList) = false := by decide +kernel
theorem nm_random_grid : ((⟨#[114, 97, 110, 100, 111, 109]⟩ : ByteArray).toList == (⟨#[103, 114, 105, 100]⟩ : ByteArray).toList) = false := by decide +kernel
theorem nm_random_wheel : ((⟨#[114, 97, 110, 100, 111, 109]⟩ : ByteArray).toList == (⟨#[119, 104, 101, 101, 108]⟩ : ByteArray).toList) = false := by decide +kernel
theorem nm_random_prism : ((⟨#[114, 97, 110, 100, 111, 109]⟩ : ByteArray).toList == (⟨#[112, 114, 105, 115, 109]⟩ : ByteArray).toList) = false := by decide +kernel
theorem nm_random_bond : ((⟨#[114, 97, 110, 100, 111, 109]⟩ : ByteArray).toList == (⟨#[98, 111, 110, 100]⟩ : ByteArray).toList) = false := by decide +kernel
theorem nm_random_random : ((⟨#[114, 97, 110, 100, 111, 109]⟩ : ByteArray).toList == (⟨#[114, 97, 110, 100, 111, 109]⟩ : ByteArray).toList) = true := by decide +kernel
theorem nm_random_stack : ((⟨#[114, 97, 110, 100, 111, 109]⟩ : ByteArray).toList == (⟨#[115, 116, 97, 99, 107]⟩ : ByteArray).toList) = false := by decide +kernel
theorem nm_stack_path : ((⟨#[115, 116, 97, 99, 107]⟩ : ByteArray).toList == (⟨#[112, 97, 116, 104]⟩ : ByteArray).toList) = false := by decide +kernel
theorem nm_stack_cycle : ((⟨#[115, 116, 97, 99, 107]⟩ : ByteArray).toList == (⟨#[99, 121, 99, 108, 101]⟩ : ByteArray).toList) = false := by decide +kernel
theorem nm_stack_complete : ((⟨#[115, 116, 97, 99, 107]⟩ : ByteArray).toList == (⟨#[99, 111, 109, 112, 108, 101, 116, 101]⟩ : ByteArray).toList) = false := by decide +kernel
theorem nm_stack_two : ((⟨#[115, 116, 97, 99, 107]⟩ : ByteArray).toList == (⟨#[116, 119, 111]⟩ : ByteArray).toList) = false := by decide +kernel
theorem nm_stack_grid : ((⟨#[115, 116, 97, 99, 107]⟩ : ByteArray).toList == (⟨#[103, 114, 105, 100]⟩ : ByteArray).toList) = false := by decide +kernel
theorem nm_stack_wheel : ((⟨#[115, 116, 97, 99, 107]⟩ : ByteArray).toList == (⟨#[119, 104, 101, 101, 108]⟩ : ByteArray).toList) = false := by decide +kernel
theorem nm_stack_prism : ((⟨#[115, 116, 97, 99, 107]⟩ : ByteArray).toList == (⟨#[112, 114, 105, 115, 109]⟩ : ByteArray).toList) = false := by decide +kernel
theorem nm_stack_bond : ((⟨#[115, 116, 97, 99, 107]⟩ : ByteArray).toList == (⟨#[98, 111, 110, 100]⟩ : ByteArray).toList) = false := by decide +kernel
theorem nm_stack_random : ((⟨#[115, 116, 97, 99, 107]⟩ : ByteArray).toList == (⟨#[114, 97, 110, 100, 111, 109]⟩ : ByteArray).toList) = false := by decide +kernel
theorem nm_stack_stack : ((⟨#[115, 116, 97, 99, 107]⟩ : ByteArray).toList == (⟨#[115, 116, 97, 99, 107]⟩ : ByteArray).toList) = true := by decide +kernel
end Go.Proofs.Ytmcloipjlihhlaa.N
