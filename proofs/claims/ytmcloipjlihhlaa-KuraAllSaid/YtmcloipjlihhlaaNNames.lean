/- The names of the kinds differ. Conditions: none. -/
import Derived.Test.YtmcloipjlihhlaaXU
namespace Go.Proofs.Ytmcloipjlihhlaa.N
open Go.X
theorem cndT {A B : Prop} : cnd true A B = A := propext ⟨fun h => h.1 rfl, fun h => ⟨fun _ => h, fun q => by cases q⟩⟩
theorem cndF {A B : Prop} : cnd false A B = B := propext ⟨fun h => h.2 rfl, fun h => ⟨fun q => (by cases q), fun _ => h⟩⟩
theorem nm_complete_path : ((⟨#[99, 111, 109, 112, 108, 101, 116, 101]⟩ : ByteArray).toList == (⟨#[112, 97, 116, 104]⟩ : ByteArray).toList) = false := by decide +kernel
theorem nm_complete_cycle : ((⟨#[99, 111, 109, 112, 108, 101, 116, 101]⟩ : ByteArray).toList == (⟨#[99, 121, 99, 108, 101]⟩ : ByteArray).toList) = false := by decide +kernel
theorem nm_complete_complete : ((⟨#[99, 111, 109, 112, 108, 101, 116, 101]⟩ : ByteArray).toList == (⟨#[99, 111, 109, 112, 108, 101, 116, 101]⟩ : ByteArray).toList) = true := by decide +kernel
theorem nm_complete_two : ((⟨#[99, 111, 109, 112, 108, 101, 116, 101]⟩ : ByteArray).toList == (⟨#[116, 119, 111]⟩ : ByteArray).toList) = false := by decide +kernel
theorem nm_complete_grid : ((⟨#[99, 111, 109, 112, 108, 101, 116, 101]⟩ : ByteArray).toList == (⟨#[103, 114, 105, 100]⟩ : ByteArray).toList) = false := by decide +kernel
theorem nm_complete_wheel : ((⟨#[99, 111, 109, 112, 108, 101, 116, 101]⟩ : ByteArray).toList == (⟨#[119, 104, 101, 101, 108]⟩ : ByteArray).toList) = false := by decide +kernel
theorem nm_complete_prism : ((⟨#[99, 111, 109, 112, 108, 101, 116, 101]⟩ : ByteArray).toList == (⟨#[112, 114, 105, 115, 109]⟩ : ByteArray).toList) = false := by decide +kernel
theorem nm_complete_bond : ((⟨#[99, 111, 109, 112, 108, 101, 116, 101]⟩ : ByteArray).toList == (⟨#[98, 111, 110, 100]⟩ : ByteArray).toList) = false := by decide +kernel
theorem nm_complete_random : ((⟨#[99, 111, 109, 112, 108, 101, 116, 101]⟩ : ByteArray).toList == (⟨#[114, 97, 110, 100, 111, 109]⟩ : ByteArray).toList) = false := by decide +kernel
theorem nm_complete_stack : ((⟨#[99, 111, 109, 112, 108, 101, 116, 101]⟩ : ByteArray).toList == (⟨#[115, 116, 97, 99, 107]⟩ : ByteArray).toList) = false := by decide +kernel
theorem nm_two_path : ((⟨#[116, 119, 111]⟩ : ByteArray).toList == (⟨#[112, 97, 116, 104]⟩ : ByteArray).toList) = false := by decide +kernel
theorem nm_two_cycle : ((⟨#[116, 119, 111]⟩ : ByteArray).toList == (⟨#[99, 121, 99, 108, 101]⟩ : ByteArray).toList) = false := by decide +kernel
theorem nm_two_complete : ((⟨#[116, 119, 111]⟩ : ByteArray).toList == (⟨#[99, 111, 109, 112, 108, 101, 116, 101]⟩ : ByteArray).toList) = false := by decide +kernel
theorem nm_two_two : ((⟨#[116, 119, 111]⟩ : ByteArray).toList == (⟨#[116, 119, 111]⟩ : ByteArray).toList) = true := by decide +kernel
theorem nm_two_grid : ((⟨#[116, 119, 111]⟩ : ByteArray).toList == (⟨#[103, 114, 105, 100]⟩ : ByteArray).toList) = false := by decide +kernel
theorem nm_two_wheel : ((⟨#[116, 119, 111]⟩ : ByteArray).toList == (⟨#[119, 104, 101, 101, 108]⟩ : ByteArray).toList) = false := by decide +kernel
theorem nm_two_prism : ((⟨#[116, 119, 111]⟩ : ByteArray).toList == (⟨#[112, 114, 105, 115, 109]⟩ : ByteArray).toList) = false := by decide +kernel
theorem nm_two_bond : ((⟨#[116, 119, 111]⟩ : ByteArray).toList == (⟨#[98, 111, 110, 100]⟩ : ByteArray).toList) = false := by decide +kernel
theorem nm_two_random : ((⟨#[116, 119, 111]⟩ : ByteArray).toList == (⟨#[114, 97, 110, 100, 111, 109]⟩ : ByteArray).toList) = false := by decide +kernel
theorem nm_two_stack : ((⟨#[116, 119, 111]⟩ : ByteArray).toList == (⟨#[115, 116, 97, 99, 107]⟩ : ByteArray).toList) = false := by decide +kernel
end Go.Proofs.Ytmcloipjlihhlaa.N
