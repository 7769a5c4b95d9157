/-
  No cell of these rows narrows 'for every input' (looked for: loops, veiled, ifaces, maps, wideKeys, modest, calm, conditions, laid).
  DERIVED. THE GIVEN ROWS OF THIS SEAT. 16 by the template 'for every input the law returns true; each argument reads behind the call as it read before'; 0 by the template 'total and deterministic' (their statements: YtkpoladbabhdmaaTotals.lean).
  GIVEN WITH THE SEED: the statements are not yours to turn. If you find one false, say at which input.
  Laid BY PROGRAM, IN A SANDBOX (cutbox-rows.mjs): the forced cells as the released guide's own fill.sh prints them over the translation 8783fbace0a4eee5… (all of the seat's roots in one cut). By AI agents, Wed Nov 11 2026. No macro, syntax, notation, axiom, sorry.
-/
import Derived.Test.YtkpoladbabhdmaaChecked
import GoSem.Claim
import GoSem.ClaimJoined
import GoSem.ClaimMapViews
import Derived.JoinedTies
import Derived.KernelRfl
namespace Go.Proofs.Ytkpoladbabhdmaa
/- THE CELL 'sum', in the pinned program and in every row, IS THE sha256 OF THE DUMP (.gsa) THAT YtkpoladbabhdmaaProg.lean LOADS. Nothing in Lean hashes anything: it is a label: what it is worth is what the hold of that sum in a sandbox is worth. -/
noncomputable def Try.pinned : Pinned := { name := "ytkpoladbabhdmaa", sum := "8783fbace0a4eee518380ab15b6a367878973a991cbe033d772a0130c987c04d", checked := Try.checked }
namespace Rows
def none {H : Type} : Left H := { results := [], args := [] }

/-- 'munimentlaw06.DiskLasts': WHATEVER THE INPUT: true; the input reads as it did. -/
def diskLastsSpec : ChangeSpec := { name := "diskLasts", fn := fun _ => fun
  | [d1, d2, d3] => { results := [.lit (.bool true)], args := [d1, d2, d3] }
  | _ => none }
def diskLastsRow : OpenClaim := { program := "ytkpoladbabhdmaa", sum := "8783fbace0a4eee518380ab15b6a367878973a991cbe033d772a0130c987c04d", func := "muniment/munimentlaw06.DiskLasts", spec := "diskLasts", inPlace := ["sync/atomic.AddInt64"], apart := false }
def DiskLastsSaid : Prop := diskLastsRow.holds Try.pinned (OpenSpec.ofChange diskLastsSpec)

/-- ITS FALSE NEIGHBOUR: 'it returns false'. Refute it at one input. -/
def diskLastsWrong : ChangeSpec := { name := "diskLasts", fn := fun _ => fun
  | [d1, d2, d3] => { results := [.lit (.bool false)], args := [d1, d2, d3] }
  | _ => none }
def DiskLastsWrongFalsely : Prop := diskLastsRow.holds Try.pinned (OpenSpec.ofChange diskLastsWrong)

/-- 'munimentlaw06.DiskKeeps': WHATEVER THE INPUT: true; the input reads as it did. -/
def diskKeepsSpec : ChangeSpec := { name := "diskKeeps", fn := fun _ => fun
  | [d] => { results := [.lit (.bool true)], args := [d] }
  | _ => none }
def diskKeepsRow : OpenClaim := { program := "ytkpoladbabhdmaa", sum := "8783fbace0a4eee518380ab15b6a367878973a991cbe033d772a0130c987c04d", func := "muniment/munimentlaw06.DiskKeeps", spec := "diskKeeps", inPlace := ["sync/atomic.AddInt64"], apart := false }
def DiskKeepsSaid : Prop := diskKeepsRow.holds Try.pinned (OpenSpec.ofChange diskKeepsSpec)

/-- ITS FALSE NEIGHBOUR: 'it returns false'. Refute it at one input. -/
def diskKeepsWrong : ChangeSpec := { name := "diskKeeps", fn := fun _ => fun
  | [d] => { results := [.lit (.bool false)], args := [d] }
  | _ => none }
def DiskKeepsWrongFalsely : Prop := diskKeepsRow.holds Try.pinned (OpenSpec.ofChange diskKeepsWrong)

/-- 'munimentlaw06.DiskFuse': WHATEVER THE INPUT: true; the input reads as it did. -/
def diskFuseSpec : ChangeSpec := { name := "diskFuse", fn := fun _ => fun
  | [d1, d2] => { results := [.lit (.bool true)], args := [d1, d2] }
  | _ => none }
def diskFuseRow : OpenClaim := { program := "ytkpoladbabhdmaa", sum := "8783fbace0a4eee518380ab15b6a367878973a991cbe033d772a0130c987c04d", func := "muniment/munimentlaw06.DiskFuse", spec := "diskFuse", inPlace := ["sync/atomic.AddInt64"], apart := false }
def DiskFuseSaid : Prop := diskFuseRow.holds Try.pinned (OpenSpec.ofChange diskFuseSpec)

/-- ITS FALSE NEIGHBOUR: 'it returns false'. Refute it at one input. -/
def diskFuseWrong : ChangeSpec := { name := "diskFuse", fn := fun _ => fun
  | [d1, d2] => { results := [.lit (.bool false)], args := [d1, d2] }
  | _ => none }
def DiskFuseWrongFalsely : Prop := diskFuseRow.holds Try.pinned (OpenSpec.ofChange diskFuseWrong)

/-- 'munimentlaw06.DiskPlays': WHATEVER THE INPUT: true; the input reads as it did. -/
def diskPlaysSpec : ChangeSpec := { name := "diskPlays", fn := fun _ => fun
  | [d1, d2] => { results := [.lit (.bool true)], args := [d1, d2] }
  | _ => none }
def diskPlaysRow : OpenClaim := { program := "ytkpoladbabhdmaa", sum := "8783fbace0a4eee518380ab15b6a367878973a991cbe033d772a0130c987c04d", func := "muniment/munimentlaw06.DiskPlays", spec := "diskPlays", inPlace := ["sync/atomic.AddInt64", "sync/atomic.LoadInt64"], apart := false }
def DiskPlaysSaid : Prop := diskPlaysRow.holds Try.pinned (OpenSpec.ofChange diskPlaysSpec)

/-- ITS FALSE NEIGHBOUR: 'it returns false'. Refute it at one input. -/
def diskPlaysWrong : ChangeSpec := { name := "diskPlays", fn := fun _ => fun
  | [d1, d2] => { results := [.lit (.bool false)], args := [d1, d2] }
  | _ => none }
def DiskPlaysWrongFalsely : Prop := diskPlaysRow.holds Try.pinned (OpenSpec.ofChange diskPlaysWrong)

/-- 'munimentlaw06.DiskNil': WHATEVER THE INPUT: true; the input reads as it did. -/
def diskNilSpec : ChangeSpec := { name := "diskNil", fn := fun _ => fun
  | [d] => { results := [.lit (.bool true)], args := [d] }
  | _ => none }
def diskNilRow : OpenClaim := { program := "ytkpoladbabhdmaa", sum := "8783fbace0a4eee518380ab15b6a367878973a991cbe033d772a0130c987c04d", func := "muniment/munimentlaw06.DiskNil", spec := "diskNil", inPlace := ["sync/atomic.AddInt64", "sync/atomic.LoadInt64"], apart := false }
def DiskNilSaid : Prop := diskNilRow.holds Try.pinned (OpenSpec.ofChange diskNilSpec)

/-- ITS FALSE NEIGHBOUR: 'it returns false'. Refute it at one input. -/
def diskNilWrong : ChangeSpec := { name := "diskNil", fn := fun _ => fun
  | [d] => { results := [.lit (.bool false)], args := [d] }
  | _ => none }
def DiskNilWrongFalsely : Prop := diskNilRow.holds Try.pinned (OpenSpec.ofChange diskNilWrong)

/-- 'munimentlaw08.MetaLimits': WHATEVER THE INPUT: true; the input reads as it did. -/
def metaLimitsSpec : ChangeSpec := { name := "metaLimits", fn := fun _ => fun
  | [d1, d2, d3] => { results := [.lit (.bool true)], args := [d1, d2, d3] }
  | _ => none }
def metaLimitsRow : OpenClaim := { program := "ytkpoladbabhdmaa", sum := "8783fbace0a4eee518380ab15b6a367878973a991cbe033d772a0130c987c04d", func := "muniment/munimentlaw08.MetaLimits", spec := "metaLimits", inPlace := ["sync/atomic.AddInt64"], apart := false }
def MetaLimitsSaid : Prop := metaLimitsRow.holds Try.pinned (OpenSpec.ofChange metaLimitsSpec)

/-- ITS FALSE NEIGHBOUR: 'it returns false'. Refute it at one input. -/
def metaLimitsWrong : ChangeSpec := { name := "metaLimits", fn := fun _ => fun
  | [d1, d2, d3] => { results := [.lit (.bool false)], args := [d1, d2, d3] }
  | _ => none }
def MetaLimitsWrongFalsely : Prop := metaLimitsRow.holds Try.pinned (OpenSpec.ofChange metaLimitsWrong)

/-- 'munimentlaw08.MetaElder': WHATEVER THE INPUT: true; the input reads as it did. -/
def metaElderSpec : ChangeSpec := { name := "metaElder", fn := fun _ => fun
  | [d1, d2, d3] => { results := [.lit (.bool true)], args := [d1, d2, d3] }
  | _ => none }
def metaElderRow : OpenClaim := { program := "ytkpoladbabhdmaa", sum := "8783fbace0a4eee518380ab15b6a367878973a991cbe033d772a0130c987c04d", func := "muniment/munimentlaw08.MetaElder", spec := "metaElder", inPlace := ["sync/atomic.AddInt64"], apart := false }
def MetaElderSaid : Prop := metaElderRow.holds Try.pinned (OpenSpec.ofChange metaElderSpec)

/-- ITS FALSE NEIGHBOUR: 'it returns false'. Refute it at one input. -/
def metaElderWrong : ChangeSpec := { name := "metaElder", fn := fun _ => fun
  | [d1, d2, d3] => { results := [.lit (.bool false)], args := [d1, d2, d3] }
  | _ => none }
def MetaElderWrongFalsely : Prop := metaElderRow.holds Try.pinned (OpenSpec.ofChange metaElderWrong)

/-- 'munimentlaw08.MetaAhead': WHATEVER THE INPUT: true; the input reads as it did. -/
def metaAheadSpec : ChangeSpec := { name := "metaAhead", fn := fun _ => fun
  | [d1, d2] => { results := [.lit (.bool true)], args := [d1, d2] }
  | _ => none }
def metaAheadRow : OpenClaim := { program := "ytkpoladbabhdmaa", sum := "8783fbace0a4eee518380ab15b6a367878973a991cbe033d772a0130c987c04d", func := "muniment/munimentlaw08.MetaAhead", spec := "metaAhead", inPlace := ["sync/atomic.AddInt64"], apart := false }
def MetaAheadSaid : Prop := metaAheadRow.holds Try.pinned (OpenSpec.ofChange metaAheadSpec)

/-- ITS FALSE NEIGHBOUR: 'it returns false'. Refute it at one input. -/
def metaAheadWrong : ChangeSpec := { name := "metaAhead", fn := fun _ => fun
  | [d1, d2] => { results := [.lit (.bool false)], args := [d1, d2] }
  | _ => none }
def MetaAheadWrongFalsely : Prop := metaAheadRow.holds Try.pinned (OpenSpec.ofChange metaAheadWrong)

/-- 'munimentlaw08.MetaCuts': WHATEVER THE INPUT: true; the input reads as it did. -/
def metaCutsSpec : ChangeSpec := { name := "metaCuts", fn := fun _ => fun
  | [d1, d2, d3] => { results := [.lit (.bool true)], args := [d1, d2, d3] }
  | _ => none }
def metaCutsRow : OpenClaim := { program := "ytkpoladbabhdmaa", sum := "8783fbace0a4eee518380ab15b6a367878973a991cbe033d772a0130c987c04d", func := "muniment/munimentlaw08.MetaCuts", spec := "metaCuts", inPlace := ["sync/atomic.AddInt64"], apart := false }
def MetaCutsSaid : Prop := metaCutsRow.holds Try.pinned (OpenSpec.ofChange metaCutsSpec)

/-- ITS FALSE NEIGHBOUR: 'it returns false'. Refute it at one input. -/
def metaCutsWrong : ChangeSpec := { name := "metaCuts", fn := fun _ => fun
  | [d1, d2, d3] => { results := [.lit (.bool false)], args := [d1, d2, d3] }
  | _ => none }
def MetaCutsWrongFalsely : Prop := metaCutsRow.holds Try.pinned (OpenSpec.ofChange metaCutsWrong)

/-- 'munimentlaw08.MetaPlays': WHATEVER THE INPUT: true; the input reads as it did. -/
def metaPlaysSpec : ChangeSpec := { name := "metaPlays", fn := fun _ => fun
  | [d1, d2] => { results := [.lit (.bool true)], args := [d1, d2] }
  | _ => none }
def metaPlaysRow : OpenClaim := { program := "ytkpoladbabhdmaa", sum := "8783fbace0a4eee518380ab15b6a367878973a991cbe033d772a0130c987c04d", func := "muniment/munimentlaw08.MetaPlays", spec := "metaPlays", inPlace := ["sync/atomic.AddInt64"], apart := false }
def MetaPlaysSaid : Prop := metaPlaysRow.holds Try.pinned (OpenSpec.ofChange metaPlaysSpec)

/-- ITS FALSE NEIGHBOUR: 'it returns false'. Refute it at one input. -/
def metaPlaysWrong : ChangeSpec := { name := "metaPlays", fn := fun _ => fun
  | [d1, d2] => { results := [.lit (.bool false)], args := [d1, d2] }
  | _ => none }
def MetaPlaysWrongFalsely : Prop := metaPlaysRow.holds Try.pinned (OpenSpec.ofChange metaPlaysWrong)

/-- 'munimentlaw07.JournalScans': WHATEVER THE INPUT: true; the input reads as it did. -/
def journalScansSpec : ChangeSpec := { name := "journalScans", fn := fun _ => fun
  | [d1, d2, d3] => { results := [.lit (.bool true)], args := [d1, d2, d3] }
  | _ => none }
def journalScansRow : OpenClaim := { program := "ytkpoladbabhdmaa", sum := "8783fbace0a4eee518380ab15b6a367878973a991cbe033d772a0130c987c04d", func := "muniment/munimentlaw07.JournalScans", spec := "journalScans", inPlace := ["sync/atomic.AddInt64"], apart := false }
def JournalScansSaid : Prop := journalScansRow.holds Try.pinned (OpenSpec.ofChange journalScansSpec)

/-- ITS FALSE NEIGHBOUR: 'it returns false'. Refute it at one input. -/
def journalScansWrong : ChangeSpec := { name := "journalScans", fn := fun _ => fun
  | [d1, d2, d3] => { results := [.lit (.bool false)], args := [d1, d2, d3] }
  | _ => none }
def JournalScansWrongFalsely : Prop := journalScansRow.holds Try.pinned (OpenSpec.ofChange journalScansWrong)

/-- 'munimentlaw07.JournalLimits': WHATEVER THE INPUT: true; the input reads as it did. -/
def journalLimitsSpec : ChangeSpec := { name := "journalLimits", fn := fun _ => fun
  | [d1, d2, d3] => { results := [.lit (.bool true)], args := [d1, d2, d3] }
  | _ => none }
def journalLimitsRow : OpenClaim := { program := "ytkpoladbabhdmaa", sum := "8783fbace0a4eee518380ab15b6a367878973a991cbe033d772a0130c987c04d", func := "muniment/munimentlaw07.JournalLimits", spec := "journalLimits", inPlace := ["sync/atomic.AddInt64"], apart := false }
def JournalLimitsSaid : Prop := journalLimitsRow.holds Try.pinned (OpenSpec.ofChange journalLimitsSpec)

/-- ITS FALSE NEIGHBOUR: 'it returns false'. Refute it at one input. -/
def journalLimitsWrong : ChangeSpec := { name := "journalLimits", fn := fun _ => fun
  | [d1, d2, d3] => { results := [.lit (.bool false)], args := [d1, d2, d3] }
  | _ => none }
def JournalLimitsWrongFalsely : Prop := journalLimitsRow.holds Try.pinned (OpenSpec.ofChange journalLimitsWrong)

/-- 'munimentlaw07.JournalCuts': WHATEVER THE INPUT: true; the input reads as it did. -/
def journalCutsSpec : ChangeSpec := { name := "journalCuts", fn := fun _ => fun
  | [d1, d2, d3] => { results := [.lit (.bool true)], args := [d1, d2, d3] }
  | _ => none }
def journalCutsRow : OpenClaim := { program := "ytkpoladbabhdmaa", sum := "8783fbace0a4eee518380ab15b6a367878973a991cbe033d772a0130c987c04d", func := "muniment/munimentlaw07.JournalCuts", spec := "journalCuts", inPlace := ["sync/atomic.AddInt64"], apart := false }
def JournalCutsSaid : Prop := journalCutsRow.holds Try.pinned (OpenSpec.ofChange journalCutsSpec)

/-- ITS FALSE NEIGHBOUR: 'it returns false'. Refute it at one input. -/
def journalCutsWrong : ChangeSpec := { name := "journalCuts", fn := fun _ => fun
  | [d1, d2, d3] => { results := [.lit (.bool false)], args := [d1, d2, d3] }
  | _ => none }
def JournalCutsWrongFalsely : Prop := journalCutsRow.holds Try.pinned (OpenSpec.ofChange journalCutsWrong)

/-- 'munimentlaw07.JournalEpochs': WHATEVER THE INPUT: true; the input reads as it did. -/
def journalEpochsSpec : ChangeSpec := { name := "journalEpochs", fn := fun _ => fun
  | [d1, d2, d3] => { results := [.lit (.bool true)], args := [d1, d2, d3] }
  | _ => none }
def journalEpochsRow : OpenClaim := { program := "ytkpoladbabhdmaa", sum := "8783fbace0a4eee518380ab15b6a367878973a991cbe033d772a0130c987c04d", func := "muniment/munimentlaw07.JournalEpochs", spec := "journalEpochs", inPlace := ["sync/atomic.AddInt64"], apart := false }
def JournalEpochsSaid : Prop := journalEpochsRow.holds Try.pinned (OpenSpec.ofChange journalEpochsSpec)

/-- ITS FALSE NEIGHBOUR: 'it returns false'. Refute it at one input. -/
def journalEpochsWrong : ChangeSpec := { name := "journalEpochs", fn := fun _ => fun
  | [d1, d2, d3] => { results := [.lit (.bool false)], args := [d1, d2, d3] }
  | _ => none }
def JournalEpochsWrongFalsely : Prop := journalEpochsRow.holds Try.pinned (OpenSpec.ofChange journalEpochsWrong)

/-- 'munimentlaw10.PagesLost': WHATEVER THE INPUT: true; the input reads as it did. -/
def pagesLostSpec : ChangeSpec := { name := "pagesLost", fn := fun _ => fun
  | [d1, d2] => { results := [.lit (.bool true)], args := [d1, d2] }
  | _ => none }
def pagesLostRow : OpenClaim := { program := "ytkpoladbabhdmaa", sum := "8783fbace0a4eee518380ab15b6a367878973a991cbe033d772a0130c987c04d", func := "muniment/munimentlaw10.PagesLost", spec := "pagesLost", inPlace := ["sync/atomic.AddInt64", "slices.overlaps[int]"], apart := false }
def PagesLostSaid : Prop := pagesLostRow.holds Try.pinned (OpenSpec.ofChange pagesLostSpec)

/-- ITS FALSE NEIGHBOUR: 'it returns false'. Refute it at one input. -/
def pagesLostWrong : ChangeSpec := { name := "pagesLost", fn := fun _ => fun
  | [d1, d2] => { results := [.lit (.bool false)], args := [d1, d2] }
  | _ => none }
def PagesLostWrongFalsely : Prop := pagesLostRow.holds Try.pinned (OpenSpec.ofChange pagesLostWrong)

/-- 'munimentlaw10.PagesPlay': WHATEVER THE INPUT: true; the input reads as it did. -/
def pagesPlaySpec : ChangeSpec := { name := "pagesPlay", fn := fun _ => fun
  | [d1, d2, d3] => { results := [.lit (.bool true)], args := [d1, d2, d3] }
  | _ => none }
def pagesPlayRow : OpenClaim := { program := "ytkpoladbabhdmaa", sum := "8783fbace0a4eee518380ab15b6a367878973a991cbe033d772a0130c987c04d", func := "muniment/munimentlaw10.PagesPlay", spec := "pagesPlay", inPlace := ["sync/atomic.AddInt64", "slices.overlaps[int]"], apart := false }
def PagesPlaySaid : Prop := pagesPlayRow.holds Try.pinned (OpenSpec.ofChange pagesPlaySpec)

/-- ITS FALSE NEIGHBOUR: 'it returns false'. Refute it at one input. -/
def pagesPlayWrong : ChangeSpec := { name := "pagesPlay", fn := fun _ => fun
  | [d1, d2, d3] => { results := [.lit (.bool false)], args := [d1, d2, d3] }
  | _ => none }
def PagesPlayWrongFalsely : Prop := pagesPlayRow.holds Try.pinned (OpenSpec.ofChange pagesPlayWrong)

/- THE SECOND FORM. 'bulk': how many values and letters a reading holds, each counted each time it is reached (what is shared counts as often as it is met; a slice's spare places count too). A statement '..UptoSaid' is the law's where the arguments, and the package variables that the reading takes, are together of bulk at most 1048576: NARROWER than '..Said'. Prove '..Said' where nothing that the law and all that it calls make is longer than what came in: it says more and counts as full. Else prove '..UptoSaid'. A law counts once. -/
mutual
def uptoBulk {H : Type} : DataW H → Nat
  | .lit (.string bytes) => bytes.length + 1
  | .lit _ => 1
  | .nil => 1
  | .ptr d => uptoBulk d + 1
  | .slice elems spare => uptoBulkAll elems + uptoBulkAll spare + 1
  | .agg parts => uptoBulkAll parts + 1
  | .iface _ d => uptoBulk d + 1
  | .map entries => uptoBulkEntries entries + 1
  | .held _ => 1
def uptoBulkAll {H : Type} : List (DataW H) → Nat
  | [] => 0
  | d :: r => uptoBulk d + uptoBulkAll r
def uptoBulkEntries {H : Type} : List (Lit × DataW H) → Nat
  | [] => 0
  | x :: r => uptoBulkEntry x + uptoBulkEntries r
def uptoBulkEntry {H : Type} : Lit × DataW H → Nat
  | (.string bytes, d) => bytes.length + uptoBulk d + 1
  | (_, d) => uptoBulk d + 1
 end
def uptoSmall : (H : Type) → List (DataW H) → Bool := fun _ ds => decide (uptoBulkAll ds ≤ 1048576)
def OpenSpec.upto (s : _root_.Go.ChangeSpec) : _root_.Go.OpenSpec := { _root_.Go.OpenSpec.ofChange s with cond := some uptoSmall }

/-- 'munimentlaw06.DiskLasts', WHERE WHAT IT READS IS OF BULK AT MOST 1048576: true; the input reads as it did. -/
def diskLastsUptoRow : OpenClaim := { program := "ytkpoladbabhdmaa", sum := "8783fbace0a4eee518380ab15b6a367878973a991cbe033d772a0130c987c04d", func := "muniment/munimentlaw06.DiskLasts", spec := "diskLasts", inPlace := ["sync/atomic.AddInt64"], apart := false, narrowed := true }
def DiskLastsUptoSaid : Prop := diskLastsUptoRow.holds Try.pinned (OpenSpec.upto diskLastsSpec)

/-- 'munimentlaw06.DiskKeeps', WHERE WHAT IT READS IS OF BULK AT MOST 1048576: true; the input reads as it did. -/
def diskKeepsUptoRow : OpenClaim := { program := "ytkpoladbabhdmaa", sum := "8783fbace0a4eee518380ab15b6a367878973a991cbe033d772a0130c987c04d", func := "muniment/munimentlaw06.DiskKeeps", spec := "diskKeeps", inPlace := ["sync/atomic.AddInt64"], apart := false, narrowed := true }
def DiskKeepsUptoSaid : Prop := diskKeepsUptoRow.holds Try.pinned (OpenSpec.upto diskKeepsSpec)

/-- 'munimentlaw06.DiskFuse', WHERE WHAT IT READS IS OF BULK AT MOST 1048576: true; the input reads as it did. -/
def diskFuseUptoRow : OpenClaim := { program := "ytkpoladbabhdmaa", sum := "8783fbace0a4eee518380ab15b6a367878973a991cbe033d772a0130c987c04d", func := "muniment/munimentlaw06.DiskFuse", spec := "diskFuse", inPlace := ["sync/atomic.AddInt64"], apart := false, narrowed := true }
def DiskFuseUptoSaid : Prop := diskFuseUptoRow.holds Try.pinned (OpenSpec.upto diskFuseSpec)

/-- 'munimentlaw06.DiskPlays', WHERE WHAT IT READS IS OF BULK AT MOST 1048576: true; the input reads as it did. -/
def diskPlaysUptoRow : OpenClaim := { program := "ytkpoladbabhdmaa", sum := "8783fbace0a4eee518380ab15b6a367878973a991cbe033d772a0130c987c04d", func := "muniment/munimentlaw06.DiskPlays", spec := "diskPlays", inPlace := ["sync/atomic.AddInt64", "sync/atomic.LoadInt64"], apart := false, narrowed := true }
def DiskPlaysUptoSaid : Prop := diskPlaysUptoRow.holds Try.pinned (OpenSpec.upto diskPlaysSpec)

/-- 'munimentlaw06.DiskNil', WHERE WHAT IT READS IS OF BULK AT MOST 1048576: true; the input reads as it did. -/
def diskNilUptoRow : OpenClaim := { program := "ytkpoladbabhdmaa", sum := "8783fbace0a4eee518380ab15b6a367878973a991cbe033d772a0130c987c04d", func := "muniment/munimentlaw06.DiskNil", spec := "diskNil", inPlace := ["sync/atomic.AddInt64", "sync/atomic.LoadInt64"], apart := false, narrowed := true }
def DiskNilUptoSaid : Prop := diskNilUptoRow.holds Try.pinned (OpenSpec.upto diskNilSpec)

/-- 'munimentlaw08.MetaLimits', WHERE WHAT IT READS IS OF BULK AT MOST 1048576: true; the input reads as it did. -/
def metaLimitsUptoRow : OpenClaim := { program := "ytkpoladbabhdmaa", sum := "8783fbace0a4eee518380ab15b6a367878973a991cbe033d772a0130c987c04d", func := "muniment/munimentlaw08.MetaLimits", spec := "metaLimits", inPlace := ["sync/atomic.AddInt64"], apart := false, narrowed := true }
def MetaLimitsUptoSaid : Prop := metaLimitsUptoRow.holds Try.pinned (OpenSpec.upto metaLimitsSpec)

/-- 'munimentlaw08.MetaElder', WHERE WHAT IT READS IS OF BULK AT MOST 1048576: true; the input reads as it did. -/
def metaElderUptoRow : OpenClaim := { program := "ytkpoladbabhdmaa", sum := "8783fbace0a4eee518380ab15b6a367878973a991cbe033d772a0130c987c04d", func := "muniment/munimentlaw08.MetaElder", spec := "metaElder", inPlace := ["sync/atomic.AddInt64"], apart := false, narrowed := true }
def MetaElderUptoSaid : Prop := metaElderUptoRow.holds Try.pinned (OpenSpec.upto metaElderSpec)

/-- 'munimentlaw08.MetaAhead', WHERE WHAT IT READS IS OF BULK AT MOST 1048576: true; the input reads as it did. -/
def metaAheadUptoRow : OpenClaim := { program := "ytkpoladbabhdmaa", sum := "8783fbace0a4eee518380ab15b6a367878973a991cbe033d772a0130c987c04d", func := "muniment/munimentlaw08.MetaAhead", spec := "metaAhead", inPlace := ["sync/atomic.AddInt64"], apart := false, narrowed := true }
def MetaAheadUptoSaid : Prop := metaAheadUptoRow.holds Try.pinned (OpenSpec.upto metaAheadSpec)

/-- 'munimentlaw08.MetaCuts', WHERE WHAT IT READS IS OF BULK AT MOST 1048576: true; the input reads as it did. -/
def metaCutsUptoRow : OpenClaim := { program := "ytkpoladbabhdmaa", sum := "8783fbace0a4eee518380ab15b6a367878973a991cbe033d772a0130c987c04d", func := "muniment/munimentlaw08.MetaCuts", spec := "metaCuts", inPlace := ["sync/atomic.AddInt64"], apart := false, narrowed := true }
def MetaCutsUptoSaid : Prop := metaCutsUptoRow.holds Try.pinned (OpenSpec.upto metaCutsSpec)

/-- 'munimentlaw08.MetaPlays', WHERE WHAT IT READS IS OF BULK AT MOST 1048576: true; the input reads as it did. -/
def metaPlaysUptoRow : OpenClaim := { program := "ytkpoladbabhdmaa", sum := "8783fbace0a4eee518380ab15b6a367878973a991cbe033d772a0130c987c04d", func := "muniment/munimentlaw08.MetaPlays", spec := "metaPlays", inPlace := ["sync/atomic.AddInt64"], apart := false, narrowed := true }
def MetaPlaysUptoSaid : Prop := metaPlaysUptoRow.holds Try.pinned (OpenSpec.upto metaPlaysSpec)

/-- 'munimentlaw07.JournalScans', WHERE WHAT IT READS IS OF BULK AT MOST 1048576: true; the input reads as it did. -/
def journalScansUptoRow : OpenClaim := { program := "ytkpoladbabhdmaa", sum := "8783fbace0a4eee518380ab15b6a367878973a991cbe033d772a0130c987c04d", func := "muniment/munimentlaw07.JournalScans", spec := "journalScans", inPlace := ["sync/atomic.AddInt64"], apart := false, narrowed := true }
def JournalScansUptoSaid : Prop := journalScansUptoRow.holds Try.pinned (OpenSpec.upto journalScansSpec)

/-- 'munimentlaw07.JournalLimits', WHERE WHAT IT READS IS OF BULK AT MOST 1048576: true; the input reads as it did. -/
def journalLimitsUptoRow : OpenClaim := { program := "ytkpoladbabhdmaa", sum := "8783fbace0a4eee518380ab15b6a367878973a991cbe033d772a0130c987c04d", func := "muniment/munimentlaw07.JournalLimits", spec := "journalLimits", inPlace := ["sync/atomic.AddInt64"], apart := false, narrowed := true }
def JournalLimitsUptoSaid : Prop := journalLimitsUptoRow.holds Try.pinned (OpenSpec.upto journalLimitsSpec)

/-- 'munimentlaw07.JournalCuts', WHERE WHAT IT READS IS OF BULK AT MOST 1048576: true; the input reads as it did. -/
def journalCutsUptoRow : OpenClaim := { program := "ytkpoladbabhdmaa", sum := "8783fbace0a4eee518380ab15b6a367878973a991cbe033d772a0130c987c04d", func := "muniment/munimentlaw07.JournalCuts", spec := "journalCuts", inPlace := ["sync/atomic.AddInt64"], apart := false, narrowed := true }
def JournalCutsUptoSaid : Prop := journalCutsUptoRow.holds Try.pinned (OpenSpec.upto journalCutsSpec)

/-- 'munimentlaw07.JournalEpochs', WHERE WHAT IT READS IS OF BULK AT MOST 1048576: true; the input reads as it did. -/
def journalEpochsUptoRow : OpenClaim := { program := "ytkpoladbabhdmaa", sum := "8783fbace0a4eee518380ab15b6a367878973a991cbe033d772a0130c987c04d", func := "muniment/munimentlaw07.JournalEpochs", spec := "journalEpochs", inPlace := ["sync/atomic.AddInt64"], apart := false, narrowed := true }
def JournalEpochsUptoSaid : Prop := journalEpochsUptoRow.holds Try.pinned (OpenSpec.upto journalEpochsSpec)

/-- 'munimentlaw10.PagesLost', WHERE WHAT IT READS IS OF BULK AT MOST 1048576: true; the input reads as it did. -/
def pagesLostUptoRow : OpenClaim := { program := "ytkpoladbabhdmaa", sum := "8783fbace0a4eee518380ab15b6a367878973a991cbe033d772a0130c987c04d", func := "muniment/munimentlaw10.PagesLost", spec := "pagesLost", inPlace := ["sync/atomic.AddInt64", "slices.overlaps[int]"], apart := false, narrowed := true }
def PagesLostUptoSaid : Prop := pagesLostUptoRow.holds Try.pinned (OpenSpec.upto pagesLostSpec)

/-- 'munimentlaw10.PagesPlay', WHERE WHAT IT READS IS OF BULK AT MOST 1048576: true; the input reads as it did. -/
def pagesPlayUptoRow : OpenClaim := { program := "ytkpoladbabhdmaa", sum := "8783fbace0a4eee518380ab15b6a367878973a991cbe033d772a0130c987c04d", func := "muniment/munimentlaw10.PagesPlay", spec := "pagesPlay", inPlace := ["sync/atomic.AddInt64", "slices.overlaps[int]"], apart := false, narrowed := true }
def PagesPlayUptoSaid : Prop := pagesPlayUptoRow.holds Try.pinned (OpenSpec.upto pagesPlaySpec)

end Rows
end Go.Proofs.Ytkpoladbabhdmaa
