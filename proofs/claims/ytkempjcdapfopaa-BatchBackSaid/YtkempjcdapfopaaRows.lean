/-
  No cell of these rows narrows 'for every input' (looked for: loops, veiled, ifaces, maps, wideKeys, modest, calm, conditions, laid).
  DERIVED. THE GIVEN ROWS OF THIS SEAT. 11 by the template 'for every input the law returns true; each argument reads behind the call as it read before'; 0 by the template 'total and deterministic' (their statements: YtkempjcdapfopaaTotals.lean).
  GIVEN WITH THE SEED: the statements are not yours to turn. If you find one false, say at which input.
  Laid BY PROGRAM, IN A SANDBOX (cutbox-rows.mjs): the forced cells as the released guide's own fill.sh prints them over the translation ebbd9ac97143d934… (all of the seat's roots in one cut). By AI agents, Wed Nov 11 2026. No macro, syntax, notation, axiom, sorry.
-/
import Derived.Test.YtkempjcdapfopaaChecked
import GoSem.Claim
import GoSem.ClaimJoined
import GoSem.ClaimMapViews
import Derived.JoinedTies
import Derived.KernelRfl
namespace Go.Proofs.Ytkempjcdapfopaa
/- THE CELL 'sum', in the pinned program and in every row, IS THE sha256 OF THE DUMP (.gsa) THAT YtkempjcdapfopaaProg.lean LOADS. Nothing in Lean hashes anything: it is a label: what it is worth is what the hold of that sum in a sandbox is worth. -/
noncomputable def Try.pinned : Pinned := { name := "ytkempjcdapfopaa", sum := "ebbd9ac97143d934edfa51f19d7a82bd766f14e69381263f9e7815237c9f1d38", checked := Try.checked }
namespace Rows
def none {H : Type} : Left H := { results := [], args := [] }

/-- 'lombardlaw19.BlockPlays': WHATEVER THE INPUT: true; the input reads as it did. -/
def blockPlaysSpec : ChangeSpec := { name := "blockPlays", fn := fun _ => fun
  | [d1, d2] => { results := [.lit (.bool true)], args := [d1, d2] }
  | _ => none }
def blockPlaysRow : OpenClaim := { program := "ytkempjcdapfopaa", sum := "ebbd9ac97143d934edfa51f19d7a82bd766f14e69381263f9e7815237c9f1d38", func := "lombard/lombardlaw19.BlockPlays", spec := "blockPlays", unfollowed := true, recurses := true, apart := false }
def BlockPlaysSaid : Prop := blockPlaysRow.holds Try.pinned (OpenSpec.ofChange blockPlaysSpec)

/-- ITS FALSE NEIGHBOUR: 'it returns false'. Refute it at one input. -/
def blockPlaysWrong : ChangeSpec := { name := "blockPlays", fn := fun _ => fun
  | [d1, d2] => { results := [.lit (.bool false)], args := [d1, d2] }
  | _ => none }
def BlockPlaysWrongFalsely : Prop := blockPlaysRow.holds Try.pinned (OpenSpec.ofChange blockPlaysWrong)

/-- 'lombardlaw19.BlockLasts': WHATEVER THE INPUT: true; the input reads as it did. -/
def blockLastsSpec : ChangeSpec := { name := "blockLasts", fn := fun _ => fun
  | [d1, d2] => { results := [.lit (.bool true)], args := [d1, d2] }
  | _ => none }
def blockLastsRow : OpenClaim := { program := "ytkempjcdapfopaa", sum := "ebbd9ac97143d934edfa51f19d7a82bd766f14e69381263f9e7815237c9f1d38", func := "lombard/lombardlaw19.BlockLasts", spec := "blockLasts", unfollowed := true, recurses := true, apart := false }
def BlockLastsSaid : Prop := blockLastsRow.holds Try.pinned (OpenSpec.ofChange blockLastsSpec)

/-- ITS FALSE NEIGHBOUR: 'it returns false'. Refute it at one input. -/
def blockLastsWrong : ChangeSpec := { name := "blockLasts", fn := fun _ => fun
  | [d1, d2] => { results := [.lit (.bool false)], args := [d1, d2] }
  | _ => none }
def BlockLastsWrongFalsely : Prop := blockLastsRow.holds Try.pinned (OpenSpec.ofChange blockLastsWrong)

/-- 'lombardlaw19.BlockReads': WHATEVER THE INPUT: true; the input reads as it did. -/
def blockReadsSpec : ChangeSpec := { name := "blockReads", fn := fun _ => fun
  | [d] => { results := [.lit (.bool true)], args := [d] }
  | _ => none }
def blockReadsRow : OpenClaim := { program := "ytkempjcdapfopaa", sum := "ebbd9ac97143d934edfa51f19d7a82bd766f14e69381263f9e7815237c9f1d38", func := "lombard/lombardlaw19.BlockReads", spec := "blockReads", unfollowed := true, recurses := true, apart := false }
def BlockReadsSaid : Prop := blockReadsRow.holds Try.pinned (OpenSpec.ofChange blockReadsSpec)

/-- ITS FALSE NEIGHBOUR: 'it returns false'. Refute it at one input. -/
def blockReadsWrong : ChangeSpec := { name := "blockReads", fn := fun _ => fun
  | [d] => { results := [.lit (.bool false)], args := [d] }
  | _ => none }
def BlockReadsWrongFalsely : Prop := blockReadsRow.holds Try.pinned (OpenSpec.ofChange blockReadsWrong)

/-- 'lombardlaw19.BlockGoes': WHATEVER THE INPUT: true; the input reads as it did. -/
def blockGoesSpec : ChangeSpec := { name := "blockGoes", fn := fun _ => fun
  | [d] => { results := [.lit (.bool true)], args := [d] }
  | _ => none }
def blockGoesRow : OpenClaim := { program := "ytkempjcdapfopaa", sum := "ebbd9ac97143d934edfa51f19d7a82bd766f14e69381263f9e7815237c9f1d38", func := "lombard/lombardlaw19.BlockGoes", spec := "blockGoes", unfollowed := true, recurses := true, apart := false }
def BlockGoesSaid : Prop := blockGoesRow.holds Try.pinned (OpenSpec.ofChange blockGoesSpec)

/-- ITS FALSE NEIGHBOUR: 'it returns false'. Refute it at one input. -/
def blockGoesWrong : ChangeSpec := { name := "blockGoes", fn := fun _ => fun
  | [d] => { results := [.lit (.bool false)], args := [d] }
  | _ => none }
def BlockGoesWrongFalsely : Prop := blockGoesRow.holds Try.pinned (OpenSpec.ofChange blockGoesWrong)

/-- 'lombardlaw19.BlockSyncs': WHATEVER THE INPUT: true; the input reads as it did. -/
def blockSyncsSpec : ChangeSpec := { name := "blockSyncs", fn := fun _ => fun
  | [d] => { results := [.lit (.bool true)], args := [d] }
  | _ => none }
def blockSyncsRow : OpenClaim := { program := "ytkempjcdapfopaa", sum := "ebbd9ac97143d934edfa51f19d7a82bd766f14e69381263f9e7815237c9f1d38", func := "lombard/lombardlaw19.BlockSyncs", spec := "blockSyncs", unfollowed := true, recurses := true, apart := false }
def BlockSyncsSaid : Prop := blockSyncsRow.holds Try.pinned (OpenSpec.ofChange blockSyncsSpec)

/-- ITS FALSE NEIGHBOUR: 'it returns false'. Refute it at one input. -/
def blockSyncsWrong : ChangeSpec := { name := "blockSyncs", fn := fun _ => fun
  | [d] => { results := [.lit (.bool false)], args := [d] }
  | _ => none }
def BlockSyncsWrongFalsely : Prop := blockSyncsRow.holds Try.pinned (OpenSpec.ofChange blockSyncsWrong)

/-- 'lombardlaw18.BatchBack': WHATEVER THE INPUT: true; the input reads as it did. -/
def batchBackSpec : ChangeSpec := { name := "batchBack", fn := fun _ => fun
  | [d1, d2, d3] => { results := [.lit (.bool true)], args := [d1, d2, d3] }
  | _ => none }
def batchBackRow : OpenClaim := { program := "ytkempjcdapfopaa", sum := "ebbd9ac97143d934edfa51f19d7a82bd766f14e69381263f9e7815237c9f1d38", func := "lombard/lombardlaw18.BatchBack", spec := "batchBack", unfollowed := true, recurses := true, apart := false }
def BatchBackSaid : Prop := batchBackRow.holds Try.pinned (OpenSpec.ofChange batchBackSpec)

/-- ITS FALSE NEIGHBOUR: 'it returns false'. Refute it at one input. -/
def batchBackWrong : ChangeSpec := { name := "batchBack", fn := fun _ => fun
  | [d1, d2, d3] => { results := [.lit (.bool false)], args := [d1, d2, d3] }
  | _ => none }
def BatchBackWrongFalsely : Prop := batchBackRow.holds Try.pinned (OpenSpec.ofChange batchBackWrong)

/-- 'lombardlaw20.JournalPlays': WHATEVER THE INPUT: true; the input reads as it did. -/
def journalPlaysSpec : ChangeSpec := { name := "journalPlays", fn := fun _ => fun
  | [d1, d2] => { results := [.lit (.bool true)], args := [d1, d2] }
  | _ => none }
def journalPlaysRow : OpenClaim := { program := "ytkempjcdapfopaa", sum := "ebbd9ac97143d934edfa51f19d7a82bd766f14e69381263f9e7815237c9f1d38", func := "lombard/lombardlaw20.JournalPlays", spec := "journalPlays", unfollowed := true, recurses := true, apart := false }
def JournalPlaysSaid : Prop := journalPlaysRow.holds Try.pinned (OpenSpec.ofChange journalPlaysSpec)

/-- ITS FALSE NEIGHBOUR: 'it returns false'. Refute it at one input. -/
def journalPlaysWrong : ChangeSpec := { name := "journalPlays", fn := fun _ => fun
  | [d1, d2] => { results := [.lit (.bool false)], args := [d1, d2] }
  | _ => none }
def JournalPlaysWrongFalsely : Prop := journalPlaysRow.holds Try.pinned (OpenSpec.ofChange journalPlaysWrong)

/-- 'lombardlaw20.JournalCrashes': WHATEVER THE INPUT: true; the input reads as it did. -/
def journalCrashesSpec : ChangeSpec := { name := "journalCrashes", fn := fun _ => fun
  | [d] => { results := [.lit (.bool true)], args := [d] }
  | _ => none }
def journalCrashesRow : OpenClaim := { program := "ytkempjcdapfopaa", sum := "ebbd9ac97143d934edfa51f19d7a82bd766f14e69381263f9e7815237c9f1d38", func := "lombard/lombardlaw20.JournalCrashes", spec := "journalCrashes", unfollowed := true, recurses := true, apart := false }
def JournalCrashesSaid : Prop := journalCrashesRow.holds Try.pinned (OpenSpec.ofChange journalCrashesSpec)

/-- ITS FALSE NEIGHBOUR: 'it returns false'. Refute it at one input. -/
def journalCrashesWrong : ChangeSpec := { name := "journalCrashes", fn := fun _ => fun
  | [d] => { results := [.lit (.bool false)], args := [d] }
  | _ => none }
def JournalCrashesWrongFalsely : Prop := journalCrashesRow.holds Try.pinned (OpenSpec.ofChange journalCrashesWrong)

/-- 'lombardlaw20.JournalParts': WHATEVER THE INPUT: true; the input reads as it did. -/
def journalPartsSpec : ChangeSpec := { name := "journalParts", fn := fun _ => fun
  | [d] => { results := [.lit (.bool true)], args := [d] }
  | _ => none }
def journalPartsRow : OpenClaim := { program := "ytkempjcdapfopaa", sum := "ebbd9ac97143d934edfa51f19d7a82bd766f14e69381263f9e7815237c9f1d38", func := "lombard/lombardlaw20.JournalParts", spec := "journalParts", unfollowed := true, recurses := true, apart := false }
def JournalPartsSaid : Prop := journalPartsRow.holds Try.pinned (OpenSpec.ofChange journalPartsSpec)

/-- ITS FALSE NEIGHBOUR: 'it returns false'. Refute it at one input. -/
def journalPartsWrong : ChangeSpec := { name := "journalParts", fn := fun _ => fun
  | [d] => { results := [.lit (.bool false)], args := [d] }
  | _ => none }
def JournalPartsWrongFalsely : Prop := journalPartsRow.holds Try.pinned (OpenSpec.ofChange journalPartsWrong)

/-- 'lombardlaw20.JournalFits': WHATEVER THE INPUT: true; the input reads as it did. -/
def journalFitsSpec : ChangeSpec := { name := "journalFits", fn := fun _ => fun
  | [d1, d2] => { results := [.lit (.bool true)], args := [d1, d2] }
  | _ => none }
def journalFitsRow : OpenClaim := { program := "ytkempjcdapfopaa", sum := "ebbd9ac97143d934edfa51f19d7a82bd766f14e69381263f9e7815237c9f1d38", func := "lombard/lombardlaw20.JournalFits", spec := "journalFits", unfollowed := true, recurses := true, apart := false }
def JournalFitsSaid : Prop := journalFitsRow.holds Try.pinned (OpenSpec.ofChange journalFitsSpec)

/-- ITS FALSE NEIGHBOUR: 'it returns false'. Refute it at one input. -/
def journalFitsWrong : ChangeSpec := { name := "journalFits", fn := fun _ => fun
  | [d1, d2] => { results := [.lit (.bool false)], args := [d1, d2] }
  | _ => none }
def JournalFitsWrongFalsely : Prop := journalFitsRow.holds Try.pinned (OpenSpec.ofChange journalFitsWrong)

/-- 'lombardlaw20.JournalAgain': WHATEVER THE INPUT: true; the input reads as it did. -/
def journalAgainSpec : ChangeSpec := { name := "journalAgain", fn := fun _ => fun
  | [d] => { results := [.lit (.bool true)], args := [d] }
  | _ => none }
def journalAgainRow : OpenClaim := { program := "ytkempjcdapfopaa", sum := "ebbd9ac97143d934edfa51f19d7a82bd766f14e69381263f9e7815237c9f1d38", func := "lombard/lombardlaw20.JournalAgain", spec := "journalAgain", unfollowed := true, recurses := true, apart := false }
def JournalAgainSaid : Prop := journalAgainRow.holds Try.pinned (OpenSpec.ofChange journalAgainSpec)

/-- ITS FALSE NEIGHBOUR: 'it returns false'. Refute it at one input. -/
def journalAgainWrong : ChangeSpec := { name := "journalAgain", fn := fun _ => fun
  | [d] => { results := [.lit (.bool false)], args := [d] }
  | _ => none }
def JournalAgainWrongFalsely : Prop := journalAgainRow.holds Try.pinned (OpenSpec.ofChange journalAgainWrong)

/- THE SECOND FORM. 'bulk': how many values and letters a reading holds, each counted each time it is reached (what is shared counts as often as it is met; a slice's spare places count too). A statement '..UptoSaid' is the law's where the arguments, and the package variables that the reading takes, are together of bulk at most 1048576: NARROWER than '..Said'. Prove '..Said' where nothing that the law and all that it calls make is longer than what came in: it says more and counts as full. Else prove '..UptoSaid'. A law counts once. -/
mutual
def uptoBulk {H : Type} : DataW H → Nat
  | .lit (.string bytes) => bytes.length + 1
  | .lit _ => 1
  | .nil => 1
  | .ptr d => uptoBulk d + 1
  | .slice elems spare => uptoBulkAll elems + uptoBulkAll spare + 1
  | .agg parts => uptoBulkAll parts + 1
  | .iface _ d => uptoBulk d + 1
  | .map entries => uptoBulkEntries entries + 1
  | .held _ => 1
def uptoBulkAll {H : Type} : List (DataW H) → Nat
  | [] => 0
  | d :: r => uptoBulk d + uptoBulkAll r
def uptoBulkEntries {H : Type} : List (Lit × DataW H) → Nat
  | [] => 0
  | x :: r => uptoBulkEntry x + uptoBulkEntries r
def uptoBulkEntry {H : Type} : Lit × DataW H → Nat
  | (.string bytes, d) => bytes.length + uptoBulk d + 1
  | (_, d) => uptoBulk d + 1
 end
def uptoSmall : (H : Type) → List (DataW H) → Bool := fun _ ds => decide (uptoBulkAll ds ≤ 1048576)
def OpenSpec.upto (s : _root_.Go.ChangeSpec) : _root_.Go.OpenSpec := { _root_.Go.OpenSpec.ofChange s with cond := some uptoSmall }

/-- 'lombardlaw19.BlockPlays', WHERE WHAT IT READS IS OF BULK AT MOST 1048576: true; the input reads as it did. -/
def blockPlaysUptoRow : OpenClaim := { program := "ytkempjcdapfopaa", sum := "ebbd9ac97143d934edfa51f19d7a82bd766f14e69381263f9e7815237c9f1d38", func := "lombard/lombardlaw19.BlockPlays", spec := "blockPlays", unfollowed := true, recurses := true, apart := false, narrowed := true }
def BlockPlaysUptoSaid : Prop := blockPlaysUptoRow.holds Try.pinned (OpenSpec.upto blockPlaysSpec)

/-- 'lombardlaw19.BlockLasts', WHERE WHAT IT READS IS OF BULK AT MOST 1048576: true; the input reads as it did. -/
def blockLastsUptoRow : OpenClaim := { program := "ytkempjcdapfopaa", sum := "ebbd9ac97143d934edfa51f19d7a82bd766f14e69381263f9e7815237c9f1d38", func := "lombard/lombardlaw19.BlockLasts", spec := "blockLasts", unfollowed := true, recurses := true, apart := false, narrowed := true }
def BlockLastsUptoSaid : Prop := blockLastsUptoRow.holds Try.pinned (OpenSpec.upto blockLastsSpec)

/-- 'lombardlaw19.BlockReads', WHERE WHAT IT READS IS OF BULK AT MOST 1048576: true; the input reads as it did. -/
def blockReadsUptoRow : OpenClaim := { program := "ytkempjcdapfopaa", sum := "ebbd9ac97143d934edfa51f19d7a82bd766f14e69381263f9e7815237c9f1d38", func := "lombard/lombardlaw19.BlockReads", spec := "blockReads", unfollowed := true, recurses := true, apart := false, narrowed := true }
def BlockReadsUptoSaid : Prop := blockReadsUptoRow.holds Try.pinned (OpenSpec.upto blockReadsSpec)

/-- 'lombardlaw19.BlockGoes', WHERE WHAT IT READS IS OF BULK AT MOST 1048576: true; the input reads as it did. -/
def blockGoesUptoRow : OpenClaim := { program := "ytkempjcdapfopaa", sum := "ebbd9ac97143d934edfa51f19d7a82bd766f14e69381263f9e7815237c9f1d38", func := "lombard/lombardlaw19.BlockGoes", spec := "blockGoes", unfollowed := true, recurses := true, apart := false, narrowed := true }
def BlockGoesUptoSaid : Prop := blockGoesUptoRow.holds Try.pinned (OpenSpec.upto blockGoesSpec)

/-- 'lombardlaw19.BlockSyncs', WHERE WHAT IT READS IS OF BULK AT MOST 1048576: true; the input reads as it did. -/
def blockSyncsUptoRow : OpenClaim := { program := "ytkempjcdapfopaa", sum := "ebbd9ac97143d934edfa51f19d7a82bd766f14e69381263f9e7815237c9f1d38", func := "lombard/lombardlaw19.BlockSyncs", spec := "blockSyncs", unfollowed := true, recurses := true, apart := false, narrowed := true }
def BlockSyncsUptoSaid : Prop := blockSyncsUptoRow.holds Try.pinned (OpenSpec.upto blockSyncsSpec)

/-- 'lombardlaw18.BatchBack', WHERE WHAT IT READS IS OF BULK AT MOST 1048576: true; the input reads as it did. -/
def batchBackUptoRow : OpenClaim := { program := "ytkempjcdapfopaa", sum := "ebbd9ac97143d934edfa51f19d7a82bd766f14e69381263f9e7815237c9f1d38", func := "lombard/lombardlaw18.BatchBack", spec := "batchBack", unfollowed := true, recurses := true, apart := false, narrowed := true }
def BatchBackUptoSaid : Prop := batchBackUptoRow.holds Try.pinned (OpenSpec.upto batchBackSpec)

/-- 'lombardlaw20.JournalPlays', WHERE WHAT IT READS IS OF BULK AT MOST 1048576: true; the input reads as it did. -/
def journalPlaysUptoRow : OpenClaim := { program := "ytkempjcdapfopaa", sum := "ebbd9ac97143d934edfa51f19d7a82bd766f14e69381263f9e7815237c9f1d38", func := "lombard/lombardlaw20.JournalPlays", spec := "journalPlays", unfollowed := true, recurses := true, apart := false, narrowed := true }
def JournalPlaysUptoSaid : Prop := journalPlaysUptoRow.holds Try.pinned (OpenSpec.upto journalPlaysSpec)

/-- 'lombardlaw20.JournalCrashes', WHERE WHAT IT READS IS OF BULK AT MOST 1048576: true; the input reads as it did. -/
def journalCrashesUptoRow : OpenClaim := { program := "ytkempjcdapfopaa", sum := "ebbd9ac97143d934edfa51f19d7a82bd766f14e69381263f9e7815237c9f1d38", func := "lombard/lombardlaw20.JournalCrashes", spec := "journalCrashes", unfollowed := true, recurses := true, apart := false, narrowed := true }
def JournalCrashesUptoSaid : Prop := journalCrashesUptoRow.holds Try.pinned (OpenSpec.upto journalCrashesSpec)

/-- 'lombardlaw20.JournalParts', WHERE WHAT IT READS IS OF BULK AT MOST 1048576: true; the input reads as it did. -/
def journalPartsUptoRow : OpenClaim := { program := "ytkempjcdapfopaa", sum := "ebbd9ac97143d934edfa51f19d7a82bd766f14e69381263f9e7815237c9f1d38", func := "lombard/lombardlaw20.JournalParts", spec := "journalParts", unfollowed := true, recurses := true, apart := false, narrowed := true }
def JournalPartsUptoSaid : Prop := journalPartsUptoRow.holds Try.pinned (OpenSpec.upto journalPartsSpec)

/-- 'lombardlaw20.JournalFits', WHERE WHAT IT READS IS OF BULK AT MOST 1048576: true; the input reads as it did. -/
def journalFitsUptoRow : OpenClaim := { program := "ytkempjcdapfopaa", sum := "ebbd9ac97143d934edfa51f19d7a82bd766f14e69381263f9e7815237c9f1d38", func := "lombard/lombardlaw20.JournalFits", spec := "journalFits", unfollowed := true, recurses := true, apart := false, narrowed := true }
def JournalFitsUptoSaid : Prop := journalFitsUptoRow.holds Try.pinned (OpenSpec.upto journalFitsSpec)

/-- 'lombardlaw20.JournalAgain', WHERE WHAT IT READS IS OF BULK AT MOST 1048576: true; the input reads as it did. -/
def journalAgainUptoRow : OpenClaim := { program := "ytkempjcdapfopaa", sum := "ebbd9ac97143d934edfa51f19d7a82bd766f14e69381263f9e7815237c9f1d38", func := "lombard/lombardlaw20.JournalAgain", spec := "journalAgain", unfollowed := true, recurses := true, apart := false, narrowed := true }
def JournalAgainUptoSaid : Prop := journalAgainUptoRow.holds Try.pinned (OpenSpec.upto journalAgainSpec)

end Rows
end Go.Proofs.Ytkempjcdapfopaa
