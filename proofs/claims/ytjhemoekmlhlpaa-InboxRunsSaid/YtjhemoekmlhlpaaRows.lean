/-
  NARROWER THAN 'FOR EVERY INPUT', by the rows' own cells (each row's printed sentence says how): InboxOnce: loops · InboxPlays: loops · InboxRuns: loops.
  DERIVED. THE GIVEN ROWS OF THIS SEAT. 7 by the template 'for every input the law returns true; each argument reads behind the call as it read before'; 0 by the template 'total and deterministic' (their statements: YtjhemoekmlhlpaaTotals.lean).
  GIVEN WITH THE SEED: the statements are not yours to turn. If you find one false, say at which input.
  Laid BY PROGRAM, IN A SANDBOX (cutbox-rows.mjs): the forced cells as the released guide's own fill.sh prints them over the translation 2bf277f685c65cbb… (all of the seat's roots in one cut). By AI agents, Wed Nov 11 2026. No macro, syntax, notation, axiom, sorry.
-/
import Derived.Test.YtjhemoekmlhlpaaChecked
import GoSem.Claim
import GoSem.ClaimJoined
import GoSem.ClaimMapViews
import Derived.JoinedTies
import Derived.KernelRfl
namespace Go.Proofs.Ytjhemoekmlhlpaa
/- THE CELL 'sum', in the pinned program and in every row, IS THE sha256 OF THE DUMP (.gsa) THAT YtjhemoekmlhlpaaProg.lean LOADS. Nothing in Lean hashes anything: it is a label: what it is worth is what the hold of that sum in a sandbox is worth. -/
noncomputable def Try.pinned : Pinned := { name := "ytjhemoekmlhlpaa", sum := "2bf277f685c65cbb04cdeb6e10d071e5f94af27df39449f9d578ac7ec15fd280", checked := Try.checked }
namespace Rows
def none {H : Type} : Left H := { results := [], args := [] }

/-- 'jotterlaw09.InboxNames': WHATEVER THE INPUT: true; the input reads as it did. -/
def inboxNamesSpec : ChangeSpec := { name := "inboxNames", fn := fun _ => fun
  | [] => { results := [.lit (.bool true)], args := [] }
  | _ => none }
def inboxNamesRow : OpenClaim := { program := "ytjhemoekmlhlpaa", sum := "2bf277f685c65cbb04cdeb6e10d071e5f94af27df39449f9d578ac7ec15fd280", func := "jotter/jotterlaw09.InboxNames", spec := "inboxNames", apart := false }
def InboxNamesSaid : Prop := inboxNamesRow.holds Try.pinned (OpenSpec.ofChange inboxNamesSpec)

/-- ITS FALSE NEIGHBOUR: 'it returns false'. Refute it at one input. -/
def inboxNamesWrong : ChangeSpec := { name := "inboxNames", fn := fun _ => fun
  | [] => { results := [.lit (.bool false)], args := [] }
  | _ => none }
def InboxNamesWrongFalsely : Prop := inboxNamesRow.holds Try.pinned (OpenSpec.ofChange inboxNamesWrong)

/-- 'jotterlaw09.InboxLink': WHATEVER THE INPUT: true; the input reads as it did. -/
def inboxLinkSpec : ChangeSpec := { name := "inboxLink", fn := fun _ => fun
  | [d1, d2, d3, d4] => { results := [.lit (.bool true)], args := [d1, d2, d3, d4] }
  | _ => none }
def inboxLinkRow : OpenClaim := { program := "ytjhemoekmlhlpaa", sum := "2bf277f685c65cbb04cdeb6e10d071e5f94af27df39449f9d578ac7ec15fd280", func := "jotter/jotterlaw09.InboxLink", spec := "inboxLink", apart := false }
def InboxLinkSaid : Prop := inboxLinkRow.holds Try.pinned (OpenSpec.ofChange inboxLinkSpec)

/-- ITS FALSE NEIGHBOUR: 'it returns false'. Refute it at one input. -/
def inboxLinkWrong : ChangeSpec := { name := "inboxLink", fn := fun _ => fun
  | [d1, d2, d3, d4] => { results := [.lit (.bool false)], args := [d1, d2, d3, d4] }
  | _ => none }
def InboxLinkWrongFalsely : Prop := inboxLinkRow.holds Try.pinned (OpenSpec.ofChange inboxLinkWrong)

/-- 'jotterlaw09.InboxOnce': WHATEVER THE INPUT: true; the input reads as it did. -/
def inboxOnceSpec : ChangeSpec := { name := "inboxOnce", fn := fun _ => fun
  | [d1, d2] => { results := [.lit (.bool true)], args := [d1, d2] }
  | _ => none }
def inboxOnceRow : OpenClaim := { program := "ytjhemoekmlhlpaa", sum := "2bf277f685c65cbb04cdeb6e10d071e5f94af27df39449f9d578ac7ec15fd280", func := "jotter/jotterlaw09.InboxOnce", spec := "inboxOnce", unfollowed := true, recurses := true, loops := true, apart := false }
def InboxOnceSaid : Prop := inboxOnceRow.holds Try.pinned (OpenSpec.ofChange inboxOnceSpec)

/-- ITS FALSE NEIGHBOUR: 'it returns false'. Refute it at one input. -/
def inboxOnceWrong : ChangeSpec := { name := "inboxOnce", fn := fun _ => fun
  | [d1, d2] => { results := [.lit (.bool false)], args := [d1, d2] }
  | _ => none }
def InboxOnceWrongFalsely : Prop := inboxOnceRow.holds Try.pinned (OpenSpec.ofChange inboxOnceWrong)

/-- 'jotterlaw09.InboxAll': WHATEVER THE INPUT: true; the input reads as it did. -/
def inboxAllSpec : ChangeSpec := { name := "inboxAll", fn := fun _ => fun
  | [d1, d2, d3] => { results := [.lit (.bool true)], args := [d1, d2, d3] }
  | _ => none }
def inboxAllRow : OpenClaim := { program := "ytjhemoekmlhlpaa", sum := "2bf277f685c65cbb04cdeb6e10d071e5f94af27df39449f9d578ac7ec15fd280", func := "jotter/jotterlaw09.InboxAll", spec := "inboxAll", unfollowed := true, recurses := true, apart := false }
def InboxAllSaid : Prop := inboxAllRow.holds Try.pinned (OpenSpec.ofChange inboxAllSpec)

/-- ITS FALSE NEIGHBOUR: 'it returns false'. Refute it at one input. -/
def inboxAllWrong : ChangeSpec := { name := "inboxAll", fn := fun _ => fun
  | [d1, d2, d3] => { results := [.lit (.bool false)], args := [d1, d2, d3] }
  | _ => none }
def InboxAllWrongFalsely : Prop := inboxAllRow.holds Try.pinned (OpenSpec.ofChange inboxAllWrong)

/-- 'jotterlaw09.InboxOrder': WHATEVER THE INPUT: true; the input reads as it did. -/
def inboxOrderSpec : ChangeSpec := { name := "inboxOrder", fn := fun _ => fun
  | [d] => { results := [.lit (.bool true)], args := [d] }
  | _ => none }
def inboxOrderRow : OpenClaim := { program := "ytjhemoekmlhlpaa", sum := "2bf277f685c65cbb04cdeb6e10d071e5f94af27df39449f9d578ac7ec15fd280", func := "jotter/jotterlaw09.InboxOrder", spec := "inboxOrder", unfollowed := true, recurses := true, apart := false }
def InboxOrderSaid : Prop := inboxOrderRow.holds Try.pinned (OpenSpec.ofChange inboxOrderSpec)

/-- ITS FALSE NEIGHBOUR: 'it returns false'. Refute it at one input. -/
def inboxOrderWrong : ChangeSpec := { name := "inboxOrder", fn := fun _ => fun
  | [d] => { results := [.lit (.bool false)], args := [d] }
  | _ => none }
def InboxOrderWrongFalsely : Prop := inboxOrderRow.holds Try.pinned (OpenSpec.ofChange inboxOrderWrong)

/-- 'jotterlaw09.InboxPlays': WHATEVER THE INPUT: true; the input reads as it did. -/
def inboxPlaysSpec : ChangeSpec := { name := "inboxPlays", fn := fun _ => fun
  | [d1, d2, d3] => { results := [.lit (.bool true)], args := [d1, d2, d3] }
  | _ => none }
def inboxPlaysRow : OpenClaim := { program := "ytjhemoekmlhlpaa", sum := "2bf277f685c65cbb04cdeb6e10d071e5f94af27df39449f9d578ac7ec15fd280", func := "jotter/jotterlaw09.InboxPlays", spec := "inboxPlays", unfollowed := true, recurses := true, loops := true, apart := false }
def InboxPlaysSaid : Prop := inboxPlaysRow.holds Try.pinned (OpenSpec.ofChange inboxPlaysSpec)

/-- ITS FALSE NEIGHBOUR: 'it returns false'. Refute it at one input. -/
def inboxPlaysWrong : ChangeSpec := { name := "inboxPlays", fn := fun _ => fun
  | [d1, d2, d3] => { results := [.lit (.bool false)], args := [d1, d2, d3] }
  | _ => none }
def InboxPlaysWrongFalsely : Prop := inboxPlaysRow.holds Try.pinned (OpenSpec.ofChange inboxPlaysWrong)

/-- 'jotterlaw09.InboxRuns': WHATEVER THE INPUT: true; the input reads as it did. -/
def inboxRunsSpec : ChangeSpec := { name := "inboxRuns", fn := fun _ => fun
  | [d1, d2] => { results := [.lit (.bool true)], args := [d1, d2] }
  | _ => none }
def inboxRunsRow : OpenClaim := { program := "ytjhemoekmlhlpaa", sum := "2bf277f685c65cbb04cdeb6e10d071e5f94af27df39449f9d578ac7ec15fd280", func := "jotter/jotterlaw09.InboxRuns", spec := "inboxRuns", unfollowed := true, recurses := true, loops := true, apart := false }
def InboxRunsSaid : Prop := inboxRunsRow.holds Try.pinned (OpenSpec.ofChange inboxRunsSpec)

/-- ITS FALSE NEIGHBOUR: 'it returns false'. Refute it at one input. -/
def inboxRunsWrong : ChangeSpec := { name := "inboxRuns", fn := fun _ => fun
  | [d1, d2] => { results := [.lit (.bool false)], args := [d1, d2] }
  | _ => none }
def InboxRunsWrongFalsely : Prop := inboxRunsRow.holds Try.pinned (OpenSpec.ofChange inboxRunsWrong)

/- THE SECOND FORM. 'bulk': how many values and letters a reading holds, each counted each time it is reached (what is shared counts as often as it is met; a slice's spare places count too). A statement '..UptoSaid' is the law's where the arguments, and the package variables that the reading takes, are together of bulk at most 1048576: NARROWER than '..Said'. Prove '..Said' where nothing that the law and all that it calls make is longer than what came in: it says more and counts as full. Else prove '..UptoSaid'. A law counts once. -/
mutual
def uptoBulk {H : Type} : DataW H → Nat
  | .lit (.string bytes) => bytes.length + 1
  | .lit _ => 1
  | .nil => 1
  | .ptr d => uptoBulk d + 1
  | .slice elems spare => uptoBulkAll elems + uptoBulkAll spare + 1
  | .agg parts => uptoBulkAll parts + 1
  | .iface _ d => uptoBulk d + 1
  | .map entries => uptoBulkEntries entries + 1
  | .held _ => 1
def uptoBulkAll {H : Type} : List (DataW H) → Nat
  | [] => 0
  | d :: r => uptoBulk d + uptoBulkAll r
def uptoBulkEntries {H : Type} : List (Lit × DataW H) → Nat
  | [] => 0
  | x :: r => uptoBulkEntry x + uptoBulkEntries r
def uptoBulkEntry {H : Type} : Lit × DataW H → Nat
  | (.string bytes, d) => bytes.length + uptoBulk d + 1
  | (_, d) => uptoBulk d + 1
 end
def uptoSmall : (H : Type) → List (DataW H) → Bool := fun _ ds => decide (uptoBulkAll ds ≤ 1048576)
def OpenSpec.upto (s : _root_.Go.ChangeSpec) : _root_.Go.OpenSpec := { _root_.Go.OpenSpec.ofChange s with cond := some uptoSmall }

/-- 'jotterlaw09.InboxNames', WHERE WHAT IT READS IS OF BULK AT MOST 1048576: true; the input reads as it did. -/
def inboxNamesUptoRow : OpenClaim := { program := "ytjhemoekmlhlpaa", sum := "2bf277f685c65cbb04cdeb6e10d071e5f94af27df39449f9d578ac7ec15fd280", func := "jotter/jotterlaw09.InboxNames", spec := "inboxNames", apart := false, narrowed := true }
def InboxNamesUptoSaid : Prop := inboxNamesUptoRow.holds Try.pinned (OpenSpec.upto inboxNamesSpec)

/-- 'jotterlaw09.InboxLink', WHERE WHAT IT READS IS OF BULK AT MOST 1048576: true; the input reads as it did. -/
def inboxLinkUptoRow : OpenClaim := { program := "ytjhemoekmlhlpaa", sum := "2bf277f685c65cbb04cdeb6e10d071e5f94af27df39449f9d578ac7ec15fd280", func := "jotter/jotterlaw09.InboxLink", spec := "inboxLink", apart := false, narrowed := true }
def InboxLinkUptoSaid : Prop := inboxLinkUptoRow.holds Try.pinned (OpenSpec.upto inboxLinkSpec)

/-- 'jotterlaw09.InboxOnce', WHERE WHAT IT READS IS OF BULK AT MOST 1048576: true; the input reads as it did. -/
def inboxOnceUptoRow : OpenClaim := { program := "ytjhemoekmlhlpaa", sum := "2bf277f685c65cbb04cdeb6e10d071e5f94af27df39449f9d578ac7ec15fd280", func := "jotter/jotterlaw09.InboxOnce", spec := "inboxOnce", unfollowed := true, recurses := true, loops := true, apart := false, narrowed := true }
def InboxOnceUptoSaid : Prop := inboxOnceUptoRow.holds Try.pinned (OpenSpec.upto inboxOnceSpec)

/-- 'jotterlaw09.InboxAll', WHERE WHAT IT READS IS OF BULK AT MOST 1048576: true; the input reads as it did. -/
def inboxAllUptoRow : OpenClaim := { program := "ytjhemoekmlhlpaa", sum := "2bf277f685c65cbb04cdeb6e10d071e5f94af27df39449f9d578ac7ec15fd280", func := "jotter/jotterlaw09.InboxAll", spec := "inboxAll", unfollowed := true, recurses := true, apart := false, narrowed := true }
def InboxAllUptoSaid : Prop := inboxAllUptoRow.holds Try.pinned (OpenSpec.upto inboxAllSpec)

/-- 'jotterlaw09.InboxOrder', WHERE WHAT IT READS IS OF BULK AT MOST 1048576: true; the input reads as it did. -/
def inboxOrderUptoRow : OpenClaim := { program := "ytjhemoekmlhlpaa", sum := "2bf277f685c65cbb04cdeb6e10d071e5f94af27df39449f9d578ac7ec15fd280", func := "jotter/jotterlaw09.InboxOrder", spec := "inboxOrder", unfollowed := true, recurses := true, apart := false, narrowed := true }
def InboxOrderUptoSaid : Prop := inboxOrderUptoRow.holds Try.pinned (OpenSpec.upto inboxOrderSpec)

/-- 'jotterlaw09.InboxPlays', WHERE WHAT IT READS IS OF BULK AT MOST 1048576: true; the input reads as it did. -/
def inboxPlaysUptoRow : OpenClaim := { program := "ytjhemoekmlhlpaa", sum := "2bf277f685c65cbb04cdeb6e10d071e5f94af27df39449f9d578ac7ec15fd280", func := "jotter/jotterlaw09.InboxPlays", spec := "inboxPlays", unfollowed := true, recurses := true, loops := true, apart := false, narrowed := true }
def InboxPlaysUptoSaid : Prop := inboxPlaysUptoRow.holds Try.pinned (OpenSpec.upto inboxPlaysSpec)

/-- 'jotterlaw09.InboxRuns', WHERE WHAT IT READS IS OF BULK AT MOST 1048576: true; the input reads as it did. -/
def inboxRunsUptoRow : OpenClaim := { program := "ytjhemoekmlhlpaa", sum := "2bf277f685c65cbb04cdeb6e10d071e5f94af27df39449f9d578ac7ec15fd280", func := "jotter/jotterlaw09.InboxRuns", spec := "inboxRuns", unfollowed := true, recurses := true, loops := true, apart := false, narrowed := true }
def InboxRunsUptoSaid : Prop := inboxRunsUptoRow.holds Try.pinned (OpenSpec.upto inboxRunsSpec)

end Rows
end Go.Proofs.Ytjhemoekmlhlpaa
