/- Flow, plain: what the law's two texts give -/
import Derived.Test.YtmkbbclbkpofoaaDoorFlS
import Derived.ProofKit
namespace Go.Proofs.YtmkbbclbkpofoaaDoor
open Go Go.RowKit

def wk1 : ByteArray := ⟨#[102, 108, 111, 119, 32, 115, 97, 108, 101, 10, 115, 116, 101, 112, 32, 104, 111, 108, 100, 32, 99, 114, 101, 100, 105, 116, 46, 104, 111, 108, 100, 32, 117, 110, 100, 111, 32, 99, 114, 101, 100, 105, 116, 46, 114, 101, 108, 101, 97, 115, 101, 10, 119, 97, 105, 116, 32, 112, 97, 121, 32, 112, 97, 105, 100, 32, 119, 105, 116, 104, 105, 110, 32, 51, 48, 32, 97, 102, 116, 101, 114, 32, 104, 111, 108, 100]⟩
def wk2 : ByteArray := ⟨#[102, 108, 111, 119, 32, 97, 10, 10, 115, 116, 101, 112, 32, 98, 32, 98]⟩
def wkS1 : Sp := ⟨⟨#[104, 111, 108, 100]⟩, ⟨#[99, 114, 101, 100, 105, 116, 46, 104, 111, 108, 100]⟩, ⟨#[99, 114, 101, 100, 105, 116, 46, 114, 101, 108, 101, 97, 115, 101]⟩, ⟨#[]⟩, false, 0, 0, 0, []⟩
def wkS2 : Sp := ⟨⟨#[112, 97, 121]⟩, ⟨#[]⟩, ⟨#[]⟩, ⟨#[112, 97, 105, 100]⟩, false, 0, 0, 30, [⟨#[104, 111, 108, 100]⟩]⟩
theorem wk2_is : parseL wk2 = (noD, 3, 100) := by kernel_rfl
theorem wk1_is : parseL wk1 = (⟨⟨#[115, 97, 108, 101]⟩, [wkS1, wkS2]⟩, 0, 0) := by kernel_rfl

end Go.Proofs.YtmkbbclbkpofoaaDoor
