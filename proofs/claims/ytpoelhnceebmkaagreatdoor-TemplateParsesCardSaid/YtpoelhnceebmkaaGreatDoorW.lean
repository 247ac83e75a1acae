/- awake: the example of the chapter. No conditions. -/
import Derived.Test.YtpoelhnceebmkaaGreatDoorV
namespace Go.Proofs.YtpoelhnceebmkaaGreatDoor
open Go Go.RowKit Go.Shelf
set_option linter.unusedSimpArgs false
set_option linter.unusedVariables false

def sA : ByteArray := ⟨#[117, 115, 101, 32, 123, 51, 125, 32, 102, 114, 101, 101, 108, 121]⟩
def sW : ByteArray := ⟨#[85, 115, 101, 32, 105, 116, 44, 32, 118, 101, 114, 121, 32, 70, 82, 69, 69, 76, 89, 33]⟩
def xU : ByteArray := ⟨#[117, 115, 101]⟩
def xF : ByteArray := ⟨#[102, 114, 101, 101, 108, 121]⟩
def xI : ByteArray := ⟨#[105, 116]⟩
def xV : ByteArray := ⟨#[118, 101, 114, 121]⟩
def xL (c : UInt8) : ByteArray := ⟨#[c]⟩
def psA : List Pt := [(0, [xU]), (3, [xF])]
def wsA : List ByteArray := [xU, xI, xV, xF]
def wsB : List ByteArray := [xU, xL 97, xL 98, xL 99, xL 100, xF]
def wsC : List ByteArray := [xL 97, xU, xF, xU, xF]
theorem exP : parseV sA = (some psA, 0, 0) := by kernel_rfl
theorem exF : formatV psA = (sA, 0) := by kernel_rfl
theorem exW : (wordsT sW).map Prod.fst = wsA := by kernel_rfl
theorem exM : matchT psA wsA 0 = some 4 := by kernel_rfl
theorem exN : matchT psA wsB 0 = none := by kernel_rfl
theorem exD : findV [(xL 120, psA)] wsC (goodV 0 [(xL 120, psA)]) wsC.length 0 = [(0, 1, 3), (0, 3, 5)] := by kernel_rfl
theorem exL : fillV psA [[xI]] = (⟨#[117, 115, 101, 32, 105, 116, 32, 102, 114, 101, 101, 108, 121]⟩, 0) := by kernel_rfl
theorem exC : checkV [] = 1 := by kernel_rfl
theorem smA : SmT psA := ⟨by decide, by intro p hp; simp [psA] at hp; rcases hp with rfl | rfl <;> simp⟩
end Go.Proofs.YtpoelhnceebmkaaGreatDoor
