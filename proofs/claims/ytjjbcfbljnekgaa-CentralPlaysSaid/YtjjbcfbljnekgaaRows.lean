/-
  No cell of these rows narrows 'for every input' (looked for: loops, veiled, ifaces, maps, wideKeys, modest, calm, conditions, laid).
  DERIVED. THE GIVEN ROWS OF THIS SEAT. 10 by the template 'for every input the law returns true; each argument reads behind the call as it read before'; 0 by the template 'total and deterministic' (their statements: YtjjbcfbljnekgaaTotals.lean).
  GIVEN WITH THE SEED: the statements are not yours to turn. If you find one false, say at which input.
  Laid BY PROGRAM, IN A SANDBOX (cutbox-rows.mjs): the forced cells as the released guide's own fill.sh prints them over the translation 00bad805cd62c7fc… (all of the seat's roots in one cut). By AI agents, Wed Nov 11 2026. No macro, syntax, notation, axiom, sorry.
-/
import Derived.Test.YtjjbcfbljnekgaaChecked
import GoSem.Claim
import GoSem.ClaimJoined
import GoSem.ClaimMapViews
import Derived.JoinedTies
import Derived.KernelRfl
namespace Go.Proofs.Ytjjbcfbljnekgaa
/- THE CELL 'sum', in the pinned program and in every row, IS THE sha256 OF THE DUMP (.gsa) THAT YtjjbcfbljnekgaaProg.lean LOADS. Nothing in Lean hashes anything: it is a label: what it is worth is what the hold of that sum in a sandbox is worth. -/
noncomputable def Try.pinned : Pinned := { name := "ytjjbcfbljnekgaa", sum := "00bad805cd62c7fcad7bd9a6503092aa169548b6a4e5bcea1ae36955a1691975", checked := Try.checked }
namespace Rows
def none {H : Type} : Left H := { results := [], args := [] }

/-- 'treadmilllaw19.BarrierPlays': WHATEVER THE INPUT: true; the input reads as it did. -/
def barrierPlaysSpec : ChangeSpec := { name := "barrierPlays", fn := fun _ => fun
  | [d1, d2] => { results := [.lit (.bool true)], args := [d1, d2] }
  | _ => none }
def barrierPlaysRow : OpenClaim := { program := "ytjjbcfbljnekgaa", sum := "00bad805cd62c7fcad7bd9a6503092aa169548b6a4e5bcea1ae36955a1691975", func := "treadmill/treadmilllaw19.BarrierPlays", spec := "barrierPlays", apart := false }
def BarrierPlaysSaid : Prop := barrierPlaysRow.holds Try.pinned (OpenSpec.ofChange barrierPlaysSpec)

/-- ITS FALSE NEIGHBOUR: 'it returns false'. Refute it at one input. -/
def barrierPlaysWrong : ChangeSpec := { name := "barrierPlays", fn := fun _ => fun
  | [d1, d2] => { results := [.lit (.bool false)], args := [d1, d2] }
  | _ => none }
def BarrierPlaysWrongFalsely : Prop := barrierPlaysRow.holds Try.pinned (OpenSpec.ofChange barrierPlaysWrong)

/-- 'treadmilllaw19.BarrierTells': WHATEVER THE INPUT: true; the input reads as it did. -/
def barrierTellsSpec : ChangeSpec := { name := "barrierTells", fn := fun _ => fun
  | [d] => { results := [.lit (.bool true)], args := [d] }
  | _ => none }
def barrierTellsRow : OpenClaim := { program := "ytjjbcfbljnekgaa", sum := "00bad805cd62c7fcad7bd9a6503092aa169548b6a4e5bcea1ae36955a1691975", func := "treadmill/treadmilllaw19.BarrierTells", spec := "barrierTells", apart := false }
def BarrierTellsSaid : Prop := barrierTellsRow.holds Try.pinned (OpenSpec.ofChange barrierTellsSpec)

/-- ITS FALSE NEIGHBOUR: 'it returns false'. Refute it at one input. -/
def barrierTellsWrong : ChangeSpec := { name := "barrierTells", fn := fun _ => fun
  | [d] => { results := [.lit (.bool false)], args := [d] }
  | _ => none }
def BarrierTellsWrongFalsely : Prop := barrierTellsRow.holds Try.pinned (OpenSpec.ofChange barrierTellsWrong)

/-- 'treadmilllaw19.BarrierFulls': WHATEVER THE INPUT: true; the input reads as it did. -/
def barrierFullsSpec : ChangeSpec := { name := "barrierFulls", fn := fun _ => fun
  | [d] => { results := [.lit (.bool true)], args := [d] }
  | _ => none }
def barrierFullsRow : OpenClaim := { program := "ytjjbcfbljnekgaa", sum := "00bad805cd62c7fcad7bd9a6503092aa169548b6a4e5bcea1ae36955a1691975", func := "treadmill/treadmilllaw19.BarrierFulls", spec := "barrierFulls", apart := false }
def BarrierFullsSaid : Prop := barrierFullsRow.holds Try.pinned (OpenSpec.ofChange barrierFullsSpec)

/-- ITS FALSE NEIGHBOUR: 'it returns false'. Refute it at one input. -/
def barrierFullsWrong : ChangeSpec := { name := "barrierFulls", fn := fun _ => fun
  | [d] => { results := [.lit (.bool false)], args := [d] }
  | _ => none }
def BarrierFullsWrongFalsely : Prop := barrierFullsRow.holds Try.pinned (OpenSpec.ofChange barrierFullsWrong)

/-- 'treadmilllaw14.WaitOnce': WHATEVER THE INPUT: true; the input reads as it did. -/
def waitOnceSpec : ChangeSpec := { name := "waitOnce", fn := fun _ => fun
  | [d] => { results := [.lit (.bool true)], args := [d] }
  | _ => none }
def waitOnceRow : OpenClaim := { program := "ytjjbcfbljnekgaa", sum := "00bad805cd62c7fcad7bd9a6503092aa169548b6a4e5bcea1ae36955a1691975", func := "treadmill/treadmilllaw14.WaitOnce", spec := "waitOnce", apart := false }
def WaitOnceSaid : Prop := waitOnceRow.holds Try.pinned (OpenSpec.ofChange waitOnceSpec)

/-- ITS FALSE NEIGHBOUR: 'it returns false'. Refute it at one input. -/
def waitOnceWrong : ChangeSpec := { name := "waitOnce", fn := fun _ => fun
  | [d] => { results := [.lit (.bool false)], args := [d] }
  | _ => none }
def WaitOnceWrongFalsely : Prop := waitOnceRow.holds Try.pinned (OpenSpec.ofChange waitOnceWrong)

/-- 'treadmilllaw14.WaitOrder': WHATEVER THE INPUT: true; the input reads as it did. -/
def waitOrderSpec : ChangeSpec := { name := "waitOrder", fn := fun _ => fun
  | [d1, d2] => { results := [.lit (.bool true)], args := [d1, d2] }
  | _ => none }
def waitOrderRow : OpenClaim := { program := "ytjjbcfbljnekgaa", sum := "00bad805cd62c7fcad7bd9a6503092aa169548b6a4e5bcea1ae36955a1691975", func := "treadmill/treadmilllaw14.WaitOrder", spec := "waitOrder", apart := false }
def WaitOrderSaid : Prop := waitOrderRow.holds Try.pinned (OpenSpec.ofChange waitOrderSpec)

/-- ITS FALSE NEIGHBOUR: 'it returns false'. Refute it at one input. -/
def waitOrderWrong : ChangeSpec := { name := "waitOrder", fn := fun _ => fun
  | [d1, d2] => { results := [.lit (.bool false)], args := [d1, d2] }
  | _ => none }
def WaitOrderWrongFalsely : Prop := waitOrderRow.holds Try.pinned (OpenSpec.ofChange waitOrderWrong)

/-- 'treadmilllaw14.WaitPlays': WHATEVER THE INPUT: true; the input reads as it did. -/
def waitPlaysSpec : ChangeSpec := { name := "waitPlays", fn := fun _ => fun
  | [d] => { results := [.lit (.bool true)], args := [d] }
  | _ => none }
def waitPlaysRow : OpenClaim := { program := "ytjjbcfbljnekgaa", sum := "00bad805cd62c7fcad7bd9a6503092aa169548b6a4e5bcea1ae36955a1691975", func := "treadmill/treadmilllaw14.WaitPlays", spec := "waitPlays", apart := false }
def WaitPlaysSaid : Prop := waitPlaysRow.holds Try.pinned (OpenSpec.ofChange waitPlaysSpec)

/-- ITS FALSE NEIGHBOUR: 'it returns false'. Refute it at one input. -/
def waitPlaysWrong : ChangeSpec := { name := "waitPlays", fn := fun _ => fun
  | [d] => { results := [.lit (.bool false)], args := [d] }
  | _ => none }
def WaitPlaysWrongFalsely : Prop := waitPlaysRow.holds Try.pinned (OpenSpec.ofChange waitPlaysWrong)

/-- 'treadmilllaw8.CentralDels': WHATEVER THE INPUT: true; the input reads as it did. -/
def centralDelsSpec : ChangeSpec := { name := "centralDels", fn := fun _ => fun
  | [d1, d2, d3, d4] => { results := [.lit (.bool true)], args := [d1, d2, d3, d4] }
  | _ => none }
def centralDelsRow : OpenClaim := { program := "ytjjbcfbljnekgaa", sum := "00bad805cd62c7fcad7bd9a6503092aa169548b6a4e5bcea1ae36955a1691975", func := "treadmill/treadmilllaw8.CentralDels", spec := "centralDels", apart := false }
def CentralDelsSaid : Prop := centralDelsRow.holds Try.pinned (OpenSpec.ofChange centralDelsSpec)

/-- ITS FALSE NEIGHBOUR: 'it returns false'. Refute it at one input. -/
def centralDelsWrong : ChangeSpec := { name := "centralDels", fn := fun _ => fun
  | [d1, d2, d3, d4] => { results := [.lit (.bool false)], args := [d1, d2, d3, d4] }
  | _ => none }
def CentralDelsWrongFalsely : Prop := centralDelsRow.holds Try.pinned (OpenSpec.ofChange centralDelsWrong)

/-- 'treadmilllaw8.CentralTurns': WHATEVER THE INPUT: true; the input reads as it did. -/
def centralTurnsSpec : ChangeSpec := { name := "centralTurns", fn := fun _ => fun
  | [d1, d2, d3] => { results := [.lit (.bool true)], args := [d1, d2, d3] }
  | _ => none }
def centralTurnsRow : OpenClaim := { program := "ytjjbcfbljnekgaa", sum := "00bad805cd62c7fcad7bd9a6503092aa169548b6a4e5bcea1ae36955a1691975", func := "treadmill/treadmilllaw8.CentralTurns", spec := "centralTurns", apart := false }
def CentralTurnsSaid : Prop := centralTurnsRow.holds Try.pinned (OpenSpec.ofChange centralTurnsSpec)

/-- ITS FALSE NEIGHBOUR: 'it returns false'. Refute it at one input. -/
def centralTurnsWrong : ChangeSpec := { name := "centralTurns", fn := fun _ => fun
  | [d1, d2, d3] => { results := [.lit (.bool false)], args := [d1, d2, d3] }
  | _ => none }
def CentralTurnsWrongFalsely : Prop := centralTurnsRow.holds Try.pinned (OpenSpec.ofChange centralTurnsWrong)

/-- 'treadmilllaw8.CentralPlays': WHATEVER THE INPUT: true; the input reads as it did. -/
def centralPlaysSpec : ChangeSpec := { name := "centralPlays", fn := fun _ => fun
  | [d] => { results := [.lit (.bool true)], args := [d] }
  | _ => none }
def centralPlaysRow : OpenClaim := { program := "ytjjbcfbljnekgaa", sum := "00bad805cd62c7fcad7bd9a6503092aa169548b6a4e5bcea1ae36955a1691975", func := "treadmill/treadmilllaw8.CentralPlays", spec := "centralPlays", apart := false }
def CentralPlaysSaid : Prop := centralPlaysRow.holds Try.pinned (OpenSpec.ofChange centralPlaysSpec)

/-- ITS FALSE NEIGHBOUR: 'it returns false'. Refute it at one input. -/
def centralPlaysWrong : ChangeSpec := { name := "centralPlays", fn := fun _ => fun
  | [d] => { results := [.lit (.bool false)], args := [d] }
  | _ => none }
def CentralPlaysWrongFalsely : Prop := centralPlaysRow.holds Try.pinned (OpenSpec.ofChange centralPlaysWrong)

/-- 'treadmilllaw8.CentralOnce': WHATEVER THE INPUT: true; the input reads as it did. -/
def centralOnceSpec : ChangeSpec := { name := "centralOnce", fn := fun _ => fun
  | [d1, d2] => { results := [.lit (.bool true)], args := [d1, d2] }
  | _ => none }
def centralOnceRow : OpenClaim := { program := "ytjjbcfbljnekgaa", sum := "00bad805cd62c7fcad7bd9a6503092aa169548b6a4e5bcea1ae36955a1691975", func := "treadmill/treadmilllaw8.CentralOnce", spec := "centralOnce", apart := false }
def CentralOnceSaid : Prop := centralOnceRow.holds Try.pinned (OpenSpec.ofChange centralOnceSpec)

/-- ITS FALSE NEIGHBOUR: 'it returns false'. Refute it at one input. -/
def centralOnceWrong : ChangeSpec := { name := "centralOnce", fn := fun _ => fun
  | [d1, d2] => { results := [.lit (.bool false)], args := [d1, d2] }
  | _ => none }
def CentralOnceWrongFalsely : Prop := centralOnceRow.holds Try.pinned (OpenSpec.ofChange centralOnceWrong)

/- THE SECOND FORM. 'bulk': how many values and letters a reading holds, each counted each time it is reached (what is shared counts as often as it is met; a slice's spare places count too). A statement '..UptoSaid' is the law's where the arguments, and the package variables that the reading takes, are together of bulk at most 1048576: NARROWER than '..Said'. Prove '..Said' where nothing that the law and all that it calls make is longer than what came in: it says more and counts as full. Else prove '..UptoSaid'. A law counts once. -/
mutual
def uptoBulk {H : Type} : DataW H → Nat
  | .lit (.string bytes) => bytes.length + 1
  | .lit _ => 1
  | .nil => 1
  | .ptr d => uptoBulk d + 1
  | .slice elems spare => uptoBulkAll elems + uptoBulkAll spare + 1
  | .agg parts => uptoBulkAll parts + 1
  | .iface _ d => uptoBulk d + 1
  | .map entries => uptoBulkEntries entries + 1
  | .held _ => 1
def uptoBulkAll {H : Type} : List (DataW H) → Nat
  | [] => 0
  | d :: r => uptoBulk d + uptoBulkAll r
def uptoBulkEntries {H : Type} : List (Lit × DataW H) → Nat
  | [] => 0
  | x :: r => uptoBulkEntry x + uptoBulkEntries r
def uptoBulkEntry {H : Type} : Lit × DataW H → Nat
  | (.string bytes, d) => bytes.length + uptoBulk d + 1
  | (_, d) => uptoBulk d + 1
 end
def uptoSmall : (H : Type) → List (DataW H) → Bool := fun _ ds => decide (uptoBulkAll ds ≤ 1048576)
def OpenSpec.upto (s : _root_.Go.ChangeSpec) : _root_.Go.OpenSpec := { _root_.Go.OpenSpec.ofChange s with cond := some uptoSmall }

/-- 'treadmilllaw19.BarrierPlays', WHERE WHAT IT READS IS OF BULK AT MOST 1048576: true; the input reads as it did. -/
def barrierPlaysUptoRow : OpenClaim := { program := "ytjjbcfbljnekgaa", sum := "00bad805cd62c7fcad7bd9a6503092aa169548b6a4e5bcea1ae36955a1691975", func := "treadmill/treadmilllaw19.BarrierPlays", spec := "barrierPlays", apart := false, narrowed := true }
def BarrierPlaysUptoSaid : Prop := barrierPlaysUptoRow.holds Try.pinned (OpenSpec.upto barrierPlaysSpec)

/-- 'treadmilllaw19.BarrierTells', WHERE WHAT IT READS IS OF BULK AT MOST 1048576: true; the input reads as it did. -/
def barrierTellsUptoRow : OpenClaim := { program := "ytjjbcfbljnekgaa", sum := "00bad805cd62c7fcad7bd9a6503092aa169548b6a4e5bcea1ae36955a1691975", func := "treadmill/treadmilllaw19.BarrierTells", spec := "barrierTells", apart := false, narrowed := true }
def BarrierTellsUptoSaid : Prop := barrierTellsUptoRow.holds Try.pinned (OpenSpec.upto barrierTellsSpec)

/-- 'treadmilllaw19.BarrierFulls', WHERE WHAT IT READS IS OF BULK AT MOST 1048576: true; the input reads as it did. -/
def barrierFullsUptoRow : OpenClaim := { program := "ytjjbcfbljnekgaa", sum := "00bad805cd62c7fcad7bd9a6503092aa169548b6a4e5bcea1ae36955a1691975", func := "treadmill/treadmilllaw19.BarrierFulls", spec := "barrierFulls", apart := false, narrowed := true }
def BarrierFullsUptoSaid : Prop := barrierFullsUptoRow.holds Try.pinned (OpenSpec.upto barrierFullsSpec)

/-- 'treadmilllaw14.WaitOnce', WHERE WHAT IT READS IS OF BULK AT MOST 1048576: true; the input reads as it did. -/
def waitOnceUptoRow : OpenClaim := { program := "ytjjbcfbljnekgaa", sum := "00bad805cd62c7fcad7bd9a6503092aa169548b6a4e5bcea1ae36955a1691975", func := "treadmill/treadmilllaw14.WaitOnce", spec := "waitOnce", apart := false, narrowed := true }
def WaitOnceUptoSaid : Prop := waitOnceUptoRow.holds Try.pinned (OpenSpec.upto waitOnceSpec)

/-- 'treadmilllaw14.WaitOrder', WHERE WHAT IT READS IS OF BULK AT MOST 1048576: true; the input reads as it did. -/
def waitOrderUptoRow : OpenClaim := { program := "ytjjbcfbljnekgaa", sum := "00bad805cd62c7fcad7bd9a6503092aa169548b6a4e5bcea1ae36955a1691975", func := "treadmill/treadmilllaw14.WaitOrder", spec := "waitOrder", apart := false, narrowed := true }
def WaitOrderUptoSaid : Prop := waitOrderUptoRow.holds Try.pinned (OpenSpec.upto waitOrderSpec)

/-- 'treadmilllaw14.WaitPlays', WHERE WHAT IT READS IS OF BULK AT MOST 1048576: true; the input reads as it did. -/
def waitPlaysUptoRow : OpenClaim := { program := "ytjjbcfbljnekgaa", sum := "00bad805cd62c7fcad7bd9a6503092aa169548b6a4e5bcea1ae36955a1691975", func := "treadmill/treadmilllaw14.WaitPlays", spec := "waitPlays", apart := false, narrowed := true }
def WaitPlaysUptoSaid : Prop := waitPlaysUptoRow.holds Try.pinned (OpenSpec.upto waitPlaysSpec)

/-- 'treadmilllaw8.CentralDels', WHERE WHAT IT READS IS OF BULK AT MOST 1048576: true; the input reads as it did. -/
def centralDelsUptoRow : OpenClaim := { program := "ytjjbcfbljnekgaa", sum := "00bad805cd62c7fcad7bd9a6503092aa169548b6a4e5bcea1ae36955a1691975", func := "treadmill/treadmilllaw8.CentralDels", spec := "centralDels", apart := false, narrowed := true }
def CentralDelsUptoSaid : Prop := centralDelsUptoRow.holds Try.pinned (OpenSpec.upto centralDelsSpec)

/-- 'treadmilllaw8.CentralTurns', WHERE WHAT IT READS IS OF BULK AT MOST 1048576: true; the input reads as it did. -/
def centralTurnsUptoRow : OpenClaim := { program := "ytjjbcfbljnekgaa", sum := "00bad805cd62c7fcad7bd9a6503092aa169548b6a4e5bcea1ae36955a1691975", func := "treadmill/treadmilllaw8.CentralTurns", spec := "centralTurns", apart := false, narrowed := true }
def CentralTurnsUptoSaid : Prop := centralTurnsUptoRow.holds Try.pinned (OpenSpec.upto centralTurnsSpec)

/-- 'treadmilllaw8.CentralPlays', WHERE WHAT IT READS IS OF BULK AT MOST 1048576: true; the input reads as it did. -/
def centralPlaysUptoRow : OpenClaim := { program := "ytjjbcfbljnekgaa", sum := "00bad805cd62c7fcad7bd9a6503092aa169548b6a4e5bcea1ae36955a1691975", func := "treadmill/treadmilllaw8.CentralPlays", spec := "centralPlays", apart := false, narrowed := true }
def CentralPlaysUptoSaid : Prop := centralPlaysUptoRow.holds Try.pinned (OpenSpec.upto centralPlaysSpec)

/-- 'treadmilllaw8.CentralOnce', WHERE WHAT IT READS IS OF BULK AT MOST 1048576: true; the input reads as it did. -/
def centralOnceUptoRow : OpenClaim := { program := "ytjjbcfbljnekgaa", sum := "00bad805cd62c7fcad7bd9a6503092aa169548b6a4e5bcea1ae36955a1691975", func := "treadmill/treadmilllaw8.CentralOnce", spec := "centralOnce", apart := false, narrowed := true }
def CentralOnceUptoSaid : Prop := centralOnceUptoRow.holds Try.pinned (OpenSpec.upto centralOnceSpec)

end Rows
end Go.Proofs.Ytjjbcfbljnekgaa
