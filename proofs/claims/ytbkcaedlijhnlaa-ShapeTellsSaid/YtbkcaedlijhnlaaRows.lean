/-
  No cell of these rows narrows 'for every input' (looked for: loops, veiled, ifaces, maps, wideKeys, modest, calm, conditions, laid).
  DERIVED. THE GIVEN ROWS OF THIS SEAT. 14 by the template 'for every input the law returns true; each argument reads behind the call as it read before'; 0 by the template 'total and deterministic' (their statements: YtbkcaedlijhnlaaTotals.lean).
  GIVEN WITH THE SEED: the statements are not yours to turn. If you find one false, say at which input.
  Laid BY PROGRAM, IN A SANDBOX (cutbox-rows.mjs): the forced cells as the released guide's own fill.sh prints them over the translation af93f8b741d65a24… (all of the seat's roots in one cut). By AI agents, Wed Nov 11 2026. No macro, syntax, notation, axiom, sorry.
-/
import Derived.Test.YtbkcaedlijhnlaaChecked
import GoSem.Claim
import GoSem.ClaimJoined
import GoSem.ClaimMapViews
import Derived.JoinedTies
import Derived.KernelRfl
namespace Go.Proofs.Ytbkcaedlijhnlaa
/- THE CELL 'sum', in the pinned program and in every row, IS THE sha256 OF THE DUMP (.gsa) THAT YtbkcaedlijhnlaaProg.lean LOADS. Nothing in Lean hashes anything: it is a label: what it is worth is what the hold of that sum in a sandbox is worth. -/
noncomputable def Try.pinned : Pinned := { name := "ytbkcaedlijhnlaa", sum := "af93f8b741d65a2466f6432e7d407428d476c1f27ab3fdc9e847b2a48de59bc6", checked := Try.checked }
namespace Rows
def none {H : Type} : Left H := { results := [], args := [] }

/-- 'gessolaw16.KeyOrder': WHATEVER THE INPUT: true; the input reads as it did. -/
def keyOrderSpec : ChangeSpec := { name := "keyOrder", fn := fun _ => fun
  | [d1, d2] => { results := [.lit (.bool true)], args := [d1, d2] }
  | _ => none }
def keyOrderRow : OpenClaim := { program := "ytbkcaedlijhnlaa", sum := "af93f8b741d65a2466f6432e7d407428d476c1f27ab3fdc9e847b2a48de59bc6", func := "gesso/gessolaw16.KeyOrder", spec := "keyOrder", unfollowed := true, recurses := true, apart := false }
def KeyOrderSaid : Prop := keyOrderRow.holds Try.pinned (OpenSpec.ofChange keyOrderSpec)

/-- ITS FALSE NEIGHBOUR: 'it returns false'. Refute it at one input. -/
def keyOrderWrong : ChangeSpec := { name := "keyOrder", fn := fun _ => fun
  | [d1, d2] => { results := [.lit (.bool false)], args := [d1, d2] }
  | _ => none }
def KeyOrderWrongFalsely : Prop := keyOrderRow.holds Try.pinned (OpenSpec.ofChange keyOrderWrong)

/-- 'gessolaw18.BatchTells': WHATEVER THE INPUT: true; the input reads as it did. -/
def batchTellsSpec : ChangeSpec := { name := "batchTells", fn := fun _ => fun
  | [d1, d2, d3] => { results := [.lit (.bool true)], args := [d1, d2, d3] }
  | _ => none }
def batchTellsRow : OpenClaim := { program := "ytbkcaedlijhnlaa", sum := "af93f8b741d65a2466f6432e7d407428d476c1f27ab3fdc9e847b2a48de59bc6", func := "gesso/gessolaw18.BatchTells", spec := "batchTells", unfollowed := true, recurses := true, apart := false }
def BatchTellsSaid : Prop := batchTellsRow.holds Try.pinned (OpenSpec.ofChange batchTellsSpec)

/-- ITS FALSE NEIGHBOUR: 'it returns false'. Refute it at one input. -/
def batchTellsWrong : ChangeSpec := { name := "batchTells", fn := fun _ => fun
  | [d1, d2, d3] => { results := [.lit (.bool false)], args := [d1, d2, d3] }
  | _ => none }
def BatchTellsWrongFalsely : Prop := batchTellsRow.holds Try.pinned (OpenSpec.ofChange batchTellsWrong)

/-- 'gessolaw18.BatchMaximal': WHATEVER THE INPUT: true; the input reads as it did. -/
def batchMaximalSpec : ChangeSpec := { name := "batchMaximal", fn := fun _ => fun
  | [d1, d2] => { results := [.lit (.bool true)], args := [d1, d2] }
  | _ => none }
def batchMaximalRow : OpenClaim := { program := "ytbkcaedlijhnlaa", sum := "af93f8b741d65a2466f6432e7d407428d476c1f27ab3fdc9e847b2a48de59bc6", func := "gesso/gessolaw18.BatchMaximal", spec := "batchMaximal", unfollowed := true, recurses := true, apart := false }
def BatchMaximalSaid : Prop := batchMaximalRow.holds Try.pinned (OpenSpec.ofChange batchMaximalSpec)

/-- ITS FALSE NEIGHBOUR: 'it returns false'. Refute it at one input. -/
def batchMaximalWrong : ChangeSpec := { name := "batchMaximal", fn := fun _ => fun
  | [d1, d2] => { results := [.lit (.bool false)], args := [d1, d2] }
  | _ => none }
def BatchMaximalWrongFalsely : Prop := batchMaximalRow.holds Try.pinned (OpenSpec.ofChange batchMaximalWrong)

/-- 'gessolaw06.PartsTells': WHATEVER THE INPUT: true; the input reads as it did. -/
def partsTellsSpec : ChangeSpec := { name := "partsTells", fn := fun _ => fun
  | [d1, d2, d3] => { results := [.lit (.bool true)], args := [d1, d2, d3] }
  | _ => none }
def partsTellsRow : OpenClaim := { program := "ytbkcaedlijhnlaa", sum := "af93f8b741d65a2466f6432e7d407428d476c1f27ab3fdc9e847b2a48de59bc6", func := "gesso/gessolaw06.PartsTells", spec := "partsTells", unfollowed := true, recurses := true, apart := false }
def PartsTellsSaid : Prop := partsTellsRow.holds Try.pinned (OpenSpec.ofChange partsTellsSpec)

/-- ITS FALSE NEIGHBOUR: 'it returns false'. Refute it at one input. -/
def partsTellsWrong : ChangeSpec := { name := "partsTells", fn := fun _ => fun
  | [d1, d2, d3] => { results := [.lit (.bool false)], args := [d1, d2, d3] }
  | _ => none }
def PartsTellsWrongFalsely : Prop := partsTellsRow.holds Try.pinned (OpenSpec.ofChange partsTellsWrong)

/-- 'gessolaw06.PartsBits': WHATEVER THE INPUT: true; the input reads as it did. -/
def partsBitsSpec : ChangeSpec := { name := "partsBits", fn := fun _ => fun
  | [d1, d2] => { results := [.lit (.bool true)], args := [d1, d2] }
  | _ => none }
def partsBitsRow : OpenClaim := { program := "ytbkcaedlijhnlaa", sum := "af93f8b741d65a2466f6432e7d407428d476c1f27ab3fdc9e847b2a48de59bc6", func := "gesso/gessolaw06.PartsBits", spec := "partsBits", unfollowed := true, recurses := true, apart := false }
def PartsBitsSaid : Prop := partsBitsRow.holds Try.pinned (OpenSpec.ofChange partsBitsSpec)

/-- ITS FALSE NEIGHBOUR: 'it returns false'. Refute it at one input. -/
def partsBitsWrong : ChangeSpec := { name := "partsBits", fn := fun _ => fun
  | [d1, d2] => { results := [.lit (.bool false)], args := [d1, d2] }
  | _ => none }
def PartsBitsWrongFalsely : Prop := partsBitsRow.holds Try.pinned (OpenSpec.ofChange partsBitsWrong)

/-- 'gessolaw03.AffineNumbers': WHATEVER THE INPUT: true; the input reads as it did. -/
def affineNumbersSpec : ChangeSpec := { name := "affineNumbers", fn := fun _ => fun
  | [d1, d2, d3] => { results := [.lit (.bool true)], args := [d1, d2, d3] }
  | _ => none }
def affineNumbersRow : OpenClaim := { program := "ytbkcaedlijhnlaa", sum := "af93f8b741d65a2466f6432e7d407428d476c1f27ab3fdc9e847b2a48de59bc6", func := "gesso/gessolaw03.AffineNumbers", spec := "affineNumbers", unfollowed := true, recurses := true, apart := false }
def AffineNumbersSaid : Prop := affineNumbersRow.holds Try.pinned (OpenSpec.ofChange affineNumbersSpec)

/-- ITS FALSE NEIGHBOUR: 'it returns false'. Refute it at one input. -/
def affineNumbersWrong : ChangeSpec := { name := "affineNumbers", fn := fun _ => fun
  | [d1, d2, d3] => { results := [.lit (.bool false)], args := [d1, d2, d3] }
  | _ => none }
def AffineNumbersWrongFalsely : Prop := affineNumbersRow.holds Try.pinned (OpenSpec.ofChange affineNumbersWrong)

/-- 'gessolaw14.ViewLeft': WHATEVER THE INPUT: true; the input reads as it did. -/
def viewLeftSpec : ChangeSpec := { name := "viewLeft", fn := fun _ => fun
  | [d1, d2, d3] => { results := [.lit (.bool true)], args := [d1, d2, d3] }
  | _ => none }
def viewLeftRow : OpenClaim := { program := "ytbkcaedlijhnlaa", sum := "af93f8b741d65a2466f6432e7d407428d476c1f27ab3fdc9e847b2a48de59bc6", func := "gesso/gessolaw14.ViewLeft", spec := "viewLeft", unfollowed := true, recurses := true, apart := false }
def ViewLeftSaid : Prop := viewLeftRow.holds Try.pinned (OpenSpec.ofChange viewLeftSpec)

/-- ITS FALSE NEIGHBOUR: 'it returns false'. Refute it at one input. -/
def viewLeftWrong : ChangeSpec := { name := "viewLeft", fn := fun _ => fun
  | [d1, d2, d3] => { results := [.lit (.bool false)], args := [d1, d2, d3] }
  | _ => none }
def ViewLeftWrongFalsely : Prop := viewLeftRow.holds Try.pinned (OpenSpec.ofChange viewLeftWrong)

/-- 'gessolaw14.ViewBox': WHATEVER THE INPUT: true; the input reads as it did. -/
def viewBoxSpec : ChangeSpec := { name := "viewBox", fn := fun _ => fun
  | [d1, d2] => { results := [.lit (.bool true)], args := [d1, d2] }
  | _ => none }
def viewBoxRow : OpenClaim := { program := "ytbkcaedlijhnlaa", sum := "af93f8b741d65a2466f6432e7d407428d476c1f27ab3fdc9e847b2a48de59bc6", func := "gesso/gessolaw14.ViewBox", spec := "viewBox", unfollowed := true, recurses := true, apart := false }
def ViewBoxSaid : Prop := viewBoxRow.holds Try.pinned (OpenSpec.ofChange viewBoxSpec)

/-- ITS FALSE NEIGHBOUR: 'it returns false'. Refute it at one input. -/
def viewBoxWrong : ChangeSpec := { name := "viewBox", fn := fun _ => fun
  | [d1, d2] => { results := [.lit (.bool false)], args := [d1, d2] }
  | _ => none }
def ViewBoxWrongFalsely : Prop := viewBoxRow.holds Try.pinned (OpenSpec.ofChange viewBoxWrong)

/-- 'gessolaw14.ViewTells': WHATEVER THE INPUT: true; the input reads as it did. -/
def viewTellsSpec : ChangeSpec := { name := "viewTells", fn := fun _ => fun
  | [d1, d2, d3] => { results := [.lit (.bool true)], args := [d1, d2, d3] }
  | _ => none }
def viewTellsRow : OpenClaim := { program := "ytbkcaedlijhnlaa", sum := "af93f8b741d65a2466f6432e7d407428d476c1f27ab3fdc9e847b2a48de59bc6", func := "gesso/gessolaw14.ViewTells", spec := "viewTells", unfollowed := true, recurses := true, apart := false }
def ViewTellsSaid : Prop := viewTellsRow.holds Try.pinned (OpenSpec.ofChange viewTellsSpec)

/-- ITS FALSE NEIGHBOUR: 'it returns false'. Refute it at one input. -/
def viewTellsWrong : ChangeSpec := { name := "viewTells", fn := fun _ => fun
  | [d1, d2, d3] => { results := [.lit (.bool false)], args := [d1, d2, d3] }
  | _ => none }
def ViewTellsWrongFalsely : Prop := viewTellsRow.holds Try.pinned (OpenSpec.ofChange viewTellsWrong)

/-- 'gessolaw04.ShapeTells': WHATEVER THE INPUT: true; the input reads as it did. -/
def shapeTellsSpec : ChangeSpec := { name := "shapeTells", fn := fun _ => fun
  | [d1, d2, d3] => { results := [.lit (.bool true)], args := [d1, d2, d3] }
  | _ => none }
def shapeTellsRow : OpenClaim := { program := "ytbkcaedlijhnlaa", sum := "af93f8b741d65a2466f6432e7d407428d476c1f27ab3fdc9e847b2a48de59bc6", func := "gesso/gessolaw04.ShapeTells", spec := "shapeTells", unfollowed := true, recurses := true, apart := false }
def ShapeTellsSaid : Prop := shapeTellsRow.holds Try.pinned (OpenSpec.ofChange shapeTellsSpec)

/-- ITS FALSE NEIGHBOUR: 'it returns false'. Refute it at one input. -/
def shapeTellsWrong : ChangeSpec := { name := "shapeTells", fn := fun _ => fun
  | [d1, d2, d3] => { results := [.lit (.bool false)], args := [d1, d2, d3] }
  | _ => none }
def ShapeTellsWrongFalsely : Prop := shapeTellsRow.holds Try.pinned (OpenSpec.ofChange shapeTellsWrong)

/-- 'gessolaw07.TableSet': WHATEVER THE INPUT: true; the input reads as it did. -/
def tableSetSpec : ChangeSpec := { name := "tableSet", fn := fun _ => fun
  | [d1, d2] => { results := [.lit (.bool true)], args := [d1, d2] }
  | _ => none }
def tableSetRow : OpenClaim := { program := "ytbkcaedlijhnlaa", sum := "af93f8b741d65a2466f6432e7d407428d476c1f27ab3fdc9e847b2a48de59bc6", func := "gesso/gessolaw07.TableSet", spec := "tableSet", unfollowed := true, recurses := true, apart := false }
def TableSetSaid : Prop := tableSetRow.holds Try.pinned (OpenSpec.ofChange tableSetSpec)

/-- ITS FALSE NEIGHBOUR: 'it returns false'. Refute it at one input. -/
def tableSetWrong : ChangeSpec := { name := "tableSet", fn := fun _ => fun
  | [d1, d2] => { results := [.lit (.bool false)], args := [d1, d2] }
  | _ => none }
def TableSetWrongFalsely : Prop := tableSetRow.holds Try.pinned (OpenSpec.ofChange tableSetWrong)

/-- 'gessolaw04.ShapeInside': WHATEVER THE INPUT: true; the input reads as it did. -/
def shapeInsideSpec : ChangeSpec := { name := "shapeInside", fn := fun _ => fun
  | [d1, d2, d3] => { results := [.lit (.bool true)], args := [d1, d2, d3] }
  | _ => none }
def shapeInsideRow : OpenClaim := { program := "ytbkcaedlijhnlaa", sum := "af93f8b741d65a2466f6432e7d407428d476c1f27ab3fdc9e847b2a48de59bc6", func := "gesso/gessolaw04.ShapeInside", spec := "shapeInside", unfollowed := true, recurses := true, apart := false }
def ShapeInsideSaid : Prop := shapeInsideRow.holds Try.pinned (OpenSpec.ofChange shapeInsideSpec)

/-- ITS FALSE NEIGHBOUR: 'it returns false'. Refute it at one input. -/
def shapeInsideWrong : ChangeSpec := { name := "shapeInside", fn := fun _ => fun
  | [d1, d2, d3] => { results := [.lit (.bool false)], args := [d1, d2, d3] }
  | _ => none }
def ShapeInsideWrongFalsely : Prop := shapeInsideRow.holds Try.pinned (OpenSpec.ofChange shapeInsideWrong)

/-- 'gessolaw22.StreamTells': WHATEVER THE INPUT: true; the input reads as it did. -/
def streamTellsSpec : ChangeSpec := { name := "streamTells", fn := fun _ => fun
  | [d1, d2] => { results := [.lit (.bool true)], args := [d1, d2] }
  | _ => none }
def streamTellsRow : OpenClaim := { program := "ytbkcaedlijhnlaa", sum := "af93f8b741d65a2466f6432e7d407428d476c1f27ab3fdc9e847b2a48de59bc6", func := "gesso/gessolaw22.StreamTells", spec := "streamTells", unfollowed := true, recurses := true, apart := false }
def StreamTellsSaid : Prop := streamTellsRow.holds Try.pinned (OpenSpec.ofChange streamTellsSpec)

/-- ITS FALSE NEIGHBOUR: 'it returns false'. Refute it at one input. -/
def streamTellsWrong : ChangeSpec := { name := "streamTells", fn := fun _ => fun
  | [d1, d2] => { results := [.lit (.bool false)], args := [d1, d2] }
  | _ => none }
def StreamTellsWrongFalsely : Prop := streamTellsRow.holds Try.pinned (OpenSpec.ofChange streamTellsWrong)

/-- 'gessolaw22.StreamBytes': WHATEVER THE INPUT: true; the input reads as it did. -/
def streamBytesSpec : ChangeSpec := { name := "streamBytes", fn := fun _ => fun
  | [d] => { results := [.lit (.bool true)], args := [d] }
  | _ => none }
def streamBytesRow : OpenClaim := { program := "ytbkcaedlijhnlaa", sum := "af93f8b741d65a2466f6432e7d407428d476c1f27ab3fdc9e847b2a48de59bc6", func := "gesso/gessolaw22.StreamBytes", spec := "streamBytes", unfollowed := true, recurses := true, apart := false }
def StreamBytesSaid : Prop := streamBytesRow.holds Try.pinned (OpenSpec.ofChange streamBytesSpec)

/-- ITS FALSE NEIGHBOUR: 'it returns false'. Refute it at one input. -/
def streamBytesWrong : ChangeSpec := { name := "streamBytes", fn := fun _ => fun
  | [d] => { results := [.lit (.bool false)], args := [d] }
  | _ => none }
def StreamBytesWrongFalsely : Prop := streamBytesRow.holds Try.pinned (OpenSpec.ofChange streamBytesWrong)

/- THE SECOND FORM. 'bulk': how many values and letters a reading holds, each counted each time it is reached (what is shared counts as often as it is met; a slice's spare places count too). A statement '..UptoSaid' is the law's where the arguments, and the package variables that the reading takes, are together of bulk at most 1048576: NARROWER than '..Said'. Prove '..Said' where nothing that the law and all that it calls make is longer than what came in: it says more and counts as full. Else prove '..UptoSaid'. A law counts once. -/
mutual
def uptoBulk {H : Type} : DataW H → Nat
  | .lit (.string bytes) => bytes.length + 1
  | .lit _ => 1
  | .nil => 1
  | .ptr d => uptoBulk d + 1
  | .slice elems spare => uptoBulkAll elems + uptoBulkAll spare + 1
  | .agg parts => uptoBulkAll parts + 1
  | .iface _ d => uptoBulk d + 1
  | .map entries => uptoBulkEntries entries + 1
  | .held _ => 1
def uptoBulkAll {H : Type} : List (DataW H) → Nat
  | [] => 0
  | d :: r => uptoBulk d + uptoBulkAll r
def uptoBulkEntries {H : Type} : List (Lit × DataW H) → Nat
  | [] => 0
  | x :: r => uptoBulkEntry x + uptoBulkEntries r
def uptoBulkEntry {H : Type} : Lit × DataW H → Nat
  | (.string bytes, d) => bytes.length + uptoBulk d + 1
  | (_, d) => uptoBulk d + 1
 end
def uptoSmall : (H : Type) → List (DataW H) → Bool := fun _ ds => decide (uptoBulkAll ds ≤ 1048576)
def OpenSpec.upto (s : _root_.Go.ChangeSpec) : _root_.Go.OpenSpec := { _root_.Go.OpenSpec.ofChange s with cond := some uptoSmall }

/-- 'gessolaw16.KeyOrder', WHERE WHAT IT READS IS OF BULK AT MOST 1048576: true; the input reads as it did. -/
def keyOrderUptoRow : OpenClaim := { program := "ytbkcaedlijhnlaa", sum := "af93f8b741d65a2466f6432e7d407428d476c1f27ab3fdc9e847b2a48de59bc6", func := "gesso/gessolaw16.KeyOrder", spec := "keyOrder", unfollowed := true, recurses := true, apart := false, narrowed := true }
def KeyOrderUptoSaid : Prop := keyOrderUptoRow.holds Try.pinned (OpenSpec.upto keyOrderSpec)

/-- 'gessolaw18.BatchTells', WHERE WHAT IT READS IS OF BULK AT MOST 1048576: true; the input reads as it did. -/
def batchTellsUptoRow : OpenClaim := { program := "ytbkcaedlijhnlaa", sum := "af93f8b741d65a2466f6432e7d407428d476c1f27ab3fdc9e847b2a48de59bc6", func := "gesso/gessolaw18.BatchTells", spec := "batchTells", unfollowed := true, recurses := true, apart := false, narrowed := true }
def BatchTellsUptoSaid : Prop := batchTellsUptoRow.holds Try.pinned (OpenSpec.upto batchTellsSpec)

/-- 'gessolaw18.BatchMaximal', WHERE WHAT IT READS IS OF BULK AT MOST 1048576: true; the input reads as it did. -/
def batchMaximalUptoRow : OpenClaim := { program := "ytbkcaedlijhnlaa", sum := "af93f8b741d65a2466f6432e7d407428d476c1f27ab3fdc9e847b2a48de59bc6", func := "gesso/gessolaw18.BatchMaximal", spec := "batchMaximal", unfollowed := true, recurses := true, apart := false, narrowed := true }
def BatchMaximalUptoSaid : Prop := batchMaximalUptoRow.holds Try.pinned (OpenSpec.upto batchMaximalSpec)

/-- 'gessolaw06.PartsTells', WHERE WHAT IT READS IS OF BULK AT MOST 1048576: true; the input reads as it did. -/
def partsTellsUptoRow : OpenClaim := { program := "ytbkcaedlijhnlaa", sum := "af93f8b741d65a2466f6432e7d407428d476c1f27ab3fdc9e847b2a48de59bc6", func := "gesso/gessolaw06.PartsTells", spec := "partsTells", unfollowed := true, recurses := true, apart := false, narrowed := true }
def PartsTellsUptoSaid : Prop := partsTellsUptoRow.holds Try.pinned (OpenSpec.upto partsTellsSpec)

/-- 'gessolaw06.PartsBits', WHERE WHAT IT READS IS OF BULK AT MOST 1048576: true; the input reads as it did. -/
def partsBitsUptoRow : OpenClaim := { program := "ytbkcaedlijhnlaa", sum := "af93f8b741d65a2466f6432e7d407428d476c1f27ab3fdc9e847b2a48de59bc6", func := "gesso/gessolaw06.PartsBits", spec := "partsBits", unfollowed := true, recurses := true, apart := false, narrowed := true }
def PartsBitsUptoSaid : Prop := partsBitsUptoRow.holds Try.pinned (OpenSpec.upto partsBitsSpec)

/-- 'gessolaw03.AffineNumbers', WHERE WHAT IT READS IS OF BULK AT MOST 1048576: true; the input reads as it did. -/
def affineNumbersUptoRow : OpenClaim := { program := "ytbkcaedlijhnlaa", sum := "af93f8b741d65a2466f6432e7d407428d476c1f27ab3fdc9e847b2a48de59bc6", func := "gesso/gessolaw03.AffineNumbers", spec := "affineNumbers", unfollowed := true, recurses := true, apart := false, narrowed := true }
def AffineNumbersUptoSaid : Prop := affineNumbersUptoRow.holds Try.pinned (OpenSpec.upto affineNumbersSpec)

/-- 'gessolaw14.ViewLeft', WHERE WHAT IT READS IS OF BULK AT MOST 1048576: true; the input reads as it did. -/
def viewLeftUptoRow : OpenClaim := { program := "ytbkcaedlijhnlaa", sum := "af93f8b741d65a2466f6432e7d407428d476c1f27ab3fdc9e847b2a48de59bc6", func := "gesso/gessolaw14.ViewLeft", spec := "viewLeft", unfollowed := true, recurses := true, apart := false, narrowed := true }
def ViewLeftUptoSaid : Prop := viewLeftUptoRow.holds Try.pinned (OpenSpec.upto viewLeftSpec)

/-- 'gessolaw14.ViewBox', WHERE WHAT IT READS IS OF BULK AT MOST 1048576: true; the input reads as it did. -/
def viewBoxUptoRow : OpenClaim := { program := "ytbkcaedlijhnlaa", sum := "af93f8b741d65a2466f6432e7d407428d476c1f27ab3fdc9e847b2a48de59bc6", func := "gesso/gessolaw14.ViewBox", spec := "viewBox", unfollowed := true, recurses := true, apart := false, narrowed := true }
def ViewBoxUptoSaid : Prop := viewBoxUptoRow.holds Try.pinned (OpenSpec.upto viewBoxSpec)

/-- 'gessolaw14.ViewTells', WHERE WHAT IT READS IS OF BULK AT MOST 1048576: true; the input reads as it did. -/
def viewTellsUptoRow : OpenClaim := { program := "ytbkcaedlijhnlaa", sum := "af93f8b741d65a2466f6432e7d407428d476c1f27ab3fdc9e847b2a48de59bc6", func := "gesso/gessolaw14.ViewTells", spec := "viewTells", unfollowed := true, recurses := true, apart := false, narrowed := true }
def ViewTellsUptoSaid : Prop := viewTellsUptoRow.holds Try.pinned (OpenSpec.upto viewTellsSpec)

/-- 'gessolaw04.ShapeTells', WHERE WHAT IT READS IS OF BULK AT MOST 1048576: true; the input reads as it did. -/
def shapeTellsUptoRow : OpenClaim := { program := "ytbkcaedlijhnlaa", sum := "af93f8b741d65a2466f6432e7d407428d476c1f27ab3fdc9e847b2a48de59bc6", func := "gesso/gessolaw04.ShapeTells", spec := "shapeTells", unfollowed := true, recurses := true, apart := false, narrowed := true }
def ShapeTellsUptoSaid : Prop := shapeTellsUptoRow.holds Try.pinned (OpenSpec.upto shapeTellsSpec)

/-- 'gessolaw07.TableSet', WHERE WHAT IT READS IS OF BULK AT MOST 1048576: true; the input reads as it did. -/
def tableSetUptoRow : OpenClaim := { program := "ytbkcaedlijhnlaa", sum := "af93f8b741d65a2466f6432e7d407428d476c1f27ab3fdc9e847b2a48de59bc6", func := "gesso/gessolaw07.TableSet", spec := "tableSet", unfollowed := true, recurses := true, apart := false, narrowed := true }
def TableSetUptoSaid : Prop := tableSetUptoRow.holds Try.pinned (OpenSpec.upto tableSetSpec)

/-- 'gessolaw04.ShapeInside', WHERE WHAT IT READS IS OF BULK AT MOST 1048576: true; the input reads as it did. -/
def shapeInsideUptoRow : OpenClaim := { program := "ytbkcaedlijhnlaa", sum := "af93f8b741d65a2466f6432e7d407428d476c1f27ab3fdc9e847b2a48de59bc6", func := "gesso/gessolaw04.ShapeInside", spec := "shapeInside", unfollowed := true, recurses := true, apart := false, narrowed := true }
def ShapeInsideUptoSaid : Prop := shapeInsideUptoRow.holds Try.pinned (OpenSpec.upto shapeInsideSpec)

/-- 'gessolaw22.StreamTells', WHERE WHAT IT READS IS OF BULK AT MOST 1048576: true; the input reads as it did. -/
def streamTellsUptoRow : OpenClaim := { program := "ytbkcaedlijhnlaa", sum := "af93f8b741d65a2466f6432e7d407428d476c1f27ab3fdc9e847b2a48de59bc6", func := "gesso/gessolaw22.StreamTells", spec := "streamTells", unfollowed := true, recurses := true, apart := false, narrowed := true }
def StreamTellsUptoSaid : Prop := streamTellsUptoRow.holds Try.pinned (OpenSpec.upto streamTellsSpec)

/-- 'gessolaw22.StreamBytes', WHERE WHAT IT READS IS OF BULK AT MOST 1048576: true; the input reads as it did. -/
def streamBytesUptoRow : OpenClaim := { program := "ytbkcaedlijhnlaa", sum := "af93f8b741d65a2466f6432e7d407428d476c1f27ab3fdc9e847b2a48de59bc6", func := "gesso/gessolaw22.StreamBytes", spec := "streamBytes", unfollowed := true, recurses := true, apart := false, narrowed := true }
def StreamBytesUptoSaid : Prop := streamBytesUptoRow.holds Try.pinned (OpenSpec.upto streamBytesSpec)

end Rows
end Go.Proofs.Ytbkcaedlijhnlaa
