/-
  No cell of these rows narrows 'for every input' (looked for: loops, veiled, ifaces, maps, wideKeys, modest, calm, conditions, laid).
  DERIVED. THE GIVEN ROWS OF THIS SEAT. 12 by the template 'for every input the law returns true; each argument reads behind the call as it read before'; 0 by the template 'total and deterministic' (their statements: YtjdpjimdoknlnaaTotals.lean).
  GIVEN WITH THE SEED: the statements are not yours to turn. If you find one false, say at which input.
  Laid BY PROGRAM, IN A SANDBOX (cutbox-rows.mjs): the forced cells as the released guide's own fill.sh prints them over the translation 62e84faad0da3d26… (all of the seat's roots in one cut). By AI agents, Wed Nov 11 2026. No macro, syntax, notation, axiom, sorry.
-/
import Derived.Test.YtjdpjimdoknlnaaChecked
import GoSem.Claim
import GoSem.ClaimJoined
import GoSem.ClaimMapViews
import Derived.JoinedTies
import Derived.KernelRfl
namespace Go.Proofs.Ytjdpjimdoknlnaa
/- THE CELL 'sum', in the pinned program and in every row, IS THE sha256 OF THE DUMP (.gsa) THAT YtjdpjimdoknlnaaProg.lean LOADS. Nothing in Lean hashes anything: it is a label: what it is worth is what the hold of that sum in a sandbox is worth. -/
noncomputable def Try.pinned : Pinned := { name := "ytjdpjimdoknlnaa", sum := "62e84faad0da3d26059d825daf4f8015d3557ea0b5b8a804628fd360a84bfae3", checked := Try.checked }
namespace Rows
def none {H : Type} : Left H := { results := [], args := [] }

/-- 'varvelaw09.ApplyTorn': WHATEVER THE INPUT: true; the input reads as it did. -/
def applyTornSpec : ChangeSpec := { name := "applyTorn", fn := fun _ => fun
  | [d1, d2, d3, d4, d5] => { results := [.lit (.bool true)], args := [d1, d2, d3, d4, d5] }
  | _ => none }
def applyTornRow : OpenClaim := { program := "ytjdpjimdoknlnaa", sum := "62e84faad0da3d26059d825daf4f8015d3557ea0b5b8a804628fd360a84bfae3", func := "varve/varvelaw09.ApplyTorn", spec := "applyTorn", unfollowed := true, recurses := true, plainKeys := false, apart := false }
def ApplyTornSaid : Prop := applyTornRow.holds Try.pinned (OpenSpec.ofChange applyTornSpec)

/-- ITS FALSE NEIGHBOUR: 'it returns false'. Refute it at one input. -/
def applyTornWrong : ChangeSpec := { name := "applyTorn", fn := fun _ => fun
  | [d1, d2, d3, d4, d5] => { results := [.lit (.bool false)], args := [d1, d2, d3, d4, d5] }
  | _ => none }
def ApplyTornWrongFalsely : Prop := applyTornRow.holds Try.pinned (OpenSpec.ofChange applyTornWrong)

/-- 'varvelaw09.ApplyApart': WHATEVER THE INPUT: true; the input reads as it did. -/
def applyApartSpec : ChangeSpec := { name := "applyApart", fn := fun _ => fun
  | [d1, d2, d3, d4] => { results := [.lit (.bool true)], args := [d1, d2, d3, d4] }
  | _ => none }
def applyApartRow : OpenClaim := { program := "ytjdpjimdoknlnaa", sum := "62e84faad0da3d26059d825daf4f8015d3557ea0b5b8a804628fd360a84bfae3", func := "varve/varvelaw09.ApplyApart", spec := "applyApart", unfollowed := true, recurses := true, plainKeys := false, apart := false }
def ApplyApartSaid : Prop := applyApartRow.holds Try.pinned (OpenSpec.ofChange applyApartSpec)

/-- ITS FALSE NEIGHBOUR: 'it returns false'. Refute it at one input. -/
def applyApartWrong : ChangeSpec := { name := "applyApart", fn := fun _ => fun
  | [d1, d2, d3, d4] => { results := [.lit (.bool false)], args := [d1, d2, d3, d4] }
  | _ => none }
def ApplyApartWrongFalsely : Prop := applyApartRow.holds Try.pinned (OpenSpec.ofChange applyApartWrong)

/-- 'varvelaw11.LogLives': WHATEVER THE INPUT: true; the input reads as it did. -/
def logLivesSpec : ChangeSpec := { name := "logLives", fn := fun _ => fun
  | [d] => { results := [.lit (.bool true)], args := [d] }
  | _ => none }
def logLivesRow : OpenClaim := { program := "ytjdpjimdoknlnaa", sum := "62e84faad0da3d26059d825daf4f8015d3557ea0b5b8a804628fd360a84bfae3", func := "varve/varvelaw11.LogLives", spec := "logLives", unfollowed := true, recurses := true, plainKeys := false, apart := false }
def LogLivesSaid : Prop := logLivesRow.holds Try.pinned (OpenSpec.ofChange logLivesSpec)

/-- ITS FALSE NEIGHBOUR: 'it returns false'. Refute it at one input. -/
def logLivesWrong : ChangeSpec := { name := "logLives", fn := fun _ => fun
  | [d] => { results := [.lit (.bool false)], args := [d] }
  | _ => none }
def LogLivesWrongFalsely : Prop := logLivesRow.holds Try.pinned (OpenSpec.ofChange logLivesWrong)

/-- 'varvelaw11.LogGhosts': WHATEVER THE INPUT: true; the input reads as it did. -/
def logGhostsSpec : ChangeSpec := { name := "logGhosts", fn := fun _ => fun
  | [d] => { results := [.lit (.bool true)], args := [d] }
  | _ => none }
def logGhostsRow : OpenClaim := { program := "ytjdpjimdoknlnaa", sum := "62e84faad0da3d26059d825daf4f8015d3557ea0b5b8a804628fd360a84bfae3", func := "varve/varvelaw11.LogGhosts", spec := "logGhosts", unfollowed := true, recurses := true, plainKeys := false, apart := false }
def LogGhostsSaid : Prop := logGhostsRow.holds Try.pinned (OpenSpec.ofChange logGhostsSpec)

/-- ITS FALSE NEIGHBOUR: 'it returns false'. Refute it at one input. -/
def logGhostsWrong : ChangeSpec := { name := "logGhosts", fn := fun _ => fun
  | [d] => { results := [.lit (.bool false)], args := [d] }
  | _ => none }
def LogGhostsWrongFalsely : Prop := logGhostsRow.holds Try.pinned (OpenSpec.ofChange logGhostsWrong)

/-- 'varvelaw11.LogPlays': WHATEVER THE INPUT: true; the input reads as it did. -/
def logPlaysSpec : ChangeSpec := { name := "logPlays", fn := fun _ => fun
  | [d1, d2, d3, d4, d5] => { results := [.lit (.bool true)], args := [d1, d2, d3, d4, d5] }
  | _ => none }
def logPlaysRow : OpenClaim := { program := "ytjdpjimdoknlnaa", sum := "62e84faad0da3d26059d825daf4f8015d3557ea0b5b8a804628fd360a84bfae3", func := "varve/varvelaw11.LogPlays", spec := "logPlays", plainKeys := false, apart := false }
def LogPlaysSaid : Prop := logPlaysRow.holds Try.pinned (OpenSpec.ofChange logPlaysSpec)

/-- ITS FALSE NEIGHBOUR: 'it returns false'. Refute it at one input. -/
def logPlaysWrong : ChangeSpec := { name := "logPlays", fn := fun _ => fun
  | [d1, d2, d3, d4, d5] => { results := [.lit (.bool false)], args := [d1, d2, d3, d4, d5] }
  | _ => none }
def LogPlaysWrongFalsely : Prop := logPlaysRow.holds Try.pinned (OpenSpec.ofChange logPlaysWrong)

/-- 'varvelaw11.LogFails': WHATEVER THE INPUT: true; the input reads as it did. -/
def logFailsSpec : ChangeSpec := { name := "logFails", fn := fun _ => fun
  | [d1, d2] => { results := [.lit (.bool true)], args := [d1, d2] }
  | _ => none }
def logFailsRow : OpenClaim := { program := "ytjdpjimdoknlnaa", sum := "62e84faad0da3d26059d825daf4f8015d3557ea0b5b8a804628fd360a84bfae3", func := "varve/varvelaw11.LogFails", spec := "logFails", unfollowed := true, recurses := true, plainKeys := false, apart := false }
def LogFailsSaid : Prop := logFailsRow.holds Try.pinned (OpenSpec.ofChange logFailsSpec)

/-- ITS FALSE NEIGHBOUR: 'it returns false'. Refute it at one input. -/
def logFailsWrong : ChangeSpec := { name := "logFails", fn := fun _ => fun
  | [d1, d2] => { results := [.lit (.bool false)], args := [d1, d2] }
  | _ => none }
def LogFailsWrongFalsely : Prop := logFailsRow.holds Try.pinned (OpenSpec.ofChange logFailsWrong)

/-- 'varvelaw11.LogRound': WHATEVER THE INPUT: true; the input reads as it did. -/
def logRoundSpec : ChangeSpec := { name := "logRound", fn := fun _ => fun
  | [d1, d2] => { results := [.lit (.bool true)], args := [d1, d2] }
  | _ => none }
def logRoundRow : OpenClaim := { program := "ytjdpjimdoknlnaa", sum := "62e84faad0da3d26059d825daf4f8015d3557ea0b5b8a804628fd360a84bfae3", func := "varve/varvelaw11.LogRound", spec := "logRound", unfollowed := true, recurses := true, plainKeys := false, apart := false }
def LogRoundSaid : Prop := logRoundRow.holds Try.pinned (OpenSpec.ofChange logRoundSpec)

/-- ITS FALSE NEIGHBOUR: 'it returns false'. Refute it at one input. -/
def logRoundWrong : ChangeSpec := { name := "logRound", fn := fun _ => fun
  | [d1, d2] => { results := [.lit (.bool false)], args := [d1, d2] }
  | _ => none }
def LogRoundWrongFalsely : Prop := logRoundRow.holds Try.pinned (OpenSpec.ofChange logRoundWrong)

/-- 'varvelaw13.CacheTorn': WHATEVER THE INPUT: true; the input reads as it did. -/
def cacheTornSpec : ChangeSpec := { name := "cacheTorn", fn := fun _ => fun
  | [d1, d2] => { results := [.lit (.bool true)], args := [d1, d2] }
  | _ => none }
def cacheTornRow : OpenClaim := { program := "ytjdpjimdoknlnaa", sum := "62e84faad0da3d26059d825daf4f8015d3557ea0b5b8a804628fd360a84bfae3", func := "varve/varvelaw13.CacheTorn", spec := "cacheTorn", unfollowed := true, recurses := true, plainKeys := false, apart := false }
def CacheTornSaid : Prop := cacheTornRow.holds Try.pinned (OpenSpec.ofChange cacheTornSpec)

/-- ITS FALSE NEIGHBOUR: 'it returns false'. Refute it at one input. -/
def cacheTornWrong : ChangeSpec := { name := "cacheTorn", fn := fun _ => fun
  | [d1, d2] => { results := [.lit (.bool false)], args := [d1, d2] }
  | _ => none }
def CacheTornWrongFalsely : Prop := cacheTornRow.holds Try.pinned (OpenSpec.ofChange cacheTornWrong)

/-- 'varvelaw13.CacheSees': WHATEVER THE INPUT: true; the input reads as it did. -/
def cacheSeesSpec : ChangeSpec := { name := "cacheSees", fn := fun _ => fun
  | [d1, d2] => { results := [.lit (.bool true)], args := [d1, d2] }
  | _ => none }
def cacheSeesRow : OpenClaim := { program := "ytjdpjimdoknlnaa", sum := "62e84faad0da3d26059d825daf4f8015d3557ea0b5b8a804628fd360a84bfae3", func := "varve/varvelaw13.CacheSees", spec := "cacheSees", unfollowed := true, recurses := true, plainKeys := false, apart := false }
def CacheSeesSaid : Prop := cacheSeesRow.holds Try.pinned (OpenSpec.ofChange cacheSeesSpec)

/-- ITS FALSE NEIGHBOUR: 'it returns false'. Refute it at one input. -/
def cacheSeesWrong : ChangeSpec := { name := "cacheSees", fn := fun _ => fun
  | [d1, d2] => { results := [.lit (.bool false)], args := [d1, d2] }
  | _ => none }
def CacheSeesWrongFalsely : Prop := cacheSeesRow.holds Try.pinned (OpenSpec.ofChange cacheSeesWrong)

/-- 'varvelaw13.CachePins': WHATEVER THE INPUT: true; the input reads as it did. -/
def cachePinsSpec : ChangeSpec := { name := "cachePins", fn := fun _ => fun
  | [d1, d2] => { results := [.lit (.bool true)], args := [d1, d2] }
  | _ => none }
def cachePinsRow : OpenClaim := { program := "ytjdpjimdoknlnaa", sum := "62e84faad0da3d26059d825daf4f8015d3557ea0b5b8a804628fd360a84bfae3", func := "varve/varvelaw13.CachePins", spec := "cachePins", unfollowed := true, recurses := true, plainKeys := false, apart := false }
def CachePinsSaid : Prop := cachePinsRow.holds Try.pinned (OpenSpec.ofChange cachePinsSpec)

/-- ITS FALSE NEIGHBOUR: 'it returns false'. Refute it at one input. -/
def cachePinsWrong : ChangeSpec := { name := "cachePins", fn := fun _ => fun
  | [d1, d2] => { results := [.lit (.bool false)], args := [d1, d2] }
  | _ => none }
def CachePinsWrongFalsely : Prop := cachePinsRow.holds Try.pinned (OpenSpec.ofChange cachePinsWrong)

/-- 'varvelaw13.CacheWal': WHATEVER THE INPUT: true; the input reads as it did. -/
def cacheWalSpec : ChangeSpec := { name := "cacheWal", fn := fun _ => fun
  | [d1, d2] => { results := [.lit (.bool true)], args := [d1, d2] }
  | _ => none }
def cacheWalRow : OpenClaim := { program := "ytjdpjimdoknlnaa", sum := "62e84faad0da3d26059d825daf4f8015d3557ea0b5b8a804628fd360a84bfae3", func := "varve/varvelaw13.CacheWal", spec := "cacheWal", unfollowed := true, recurses := true, plainKeys := false, apart := false }
def CacheWalSaid : Prop := cacheWalRow.holds Try.pinned (OpenSpec.ofChange cacheWalSpec)

/-- ITS FALSE NEIGHBOUR: 'it returns false'. Refute it at one input. -/
def cacheWalWrong : ChangeSpec := { name := "cacheWal", fn := fun _ => fun
  | [d1, d2] => { results := [.lit (.bool false)], args := [d1, d2] }
  | _ => none }
def CacheWalWrongFalsely : Prop := cacheWalRow.holds Try.pinned (OpenSpec.ofChange cacheWalWrong)

/-- 'varvelaw13.CacheLasts': WHATEVER THE INPUT: true; the input reads as it did. -/
def cacheLastsSpec : ChangeSpec := { name := "cacheLasts", fn := fun _ => fun
  | [d1, d2] => { results := [.lit (.bool true)], args := [d1, d2] }
  | _ => none }
def cacheLastsRow : OpenClaim := { program := "ytjdpjimdoknlnaa", sum := "62e84faad0da3d26059d825daf4f8015d3557ea0b5b8a804628fd360a84bfae3", func := "varve/varvelaw13.CacheLasts", spec := "cacheLasts", unfollowed := true, recurses := true, plainKeys := false, apart := false }
def CacheLastsSaid : Prop := cacheLastsRow.holds Try.pinned (OpenSpec.ofChange cacheLastsSpec)

/-- ITS FALSE NEIGHBOUR: 'it returns false'. Refute it at one input. -/
def cacheLastsWrong : ChangeSpec := { name := "cacheLasts", fn := fun _ => fun
  | [d1, d2] => { results := [.lit (.bool false)], args := [d1, d2] }
  | _ => none }
def CacheLastsWrongFalsely : Prop := cacheLastsRow.holds Try.pinned (OpenSpec.ofChange cacheLastsWrong)

/- THE SECOND FORM. 'bulk': how many values and letters a reading holds, each counted each time it is reached (what is shared counts as often as it is met; a slice's spare places count too). A statement '..UptoSaid' is the law's where the arguments, and the package variables that the reading takes, are together of bulk at most 1048576: NARROWER than '..Said'. Prove '..Said' where nothing that the law and all that it calls make is longer than what came in: it says more and counts as full. Else prove '..UptoSaid'. A law counts once. -/
mutual
def uptoBulk {H : Type} : DataW H → Nat
  | .lit (.string bytes) => bytes.length + 1
  | .lit _ => 1
  | .nil => 1
  | .ptr d => uptoBulk d + 1
  | .slice elems spare => uptoBulkAll elems + uptoBulkAll spare + 1
  | .agg parts => uptoBulkAll parts + 1
  | .iface _ d => uptoBulk d + 1
  | .map entries => uptoBulkEntries entries + 1
  | .held _ => 1
def uptoBulkAll {H : Type} : List (DataW H) → Nat
  | [] => 0
  | d :: r => uptoBulk d + uptoBulkAll r
def uptoBulkEntries {H : Type} : List (Lit × DataW H) → Nat
  | [] => 0
  | x :: r => uptoBulkEntry x + uptoBulkEntries r
def uptoBulkEntry {H : Type} : Lit × DataW H → Nat
  | (.string bytes, d) => bytes.length + uptoBulk d + 1
  | (_, d) => uptoBulk d + 1
 end
def uptoSmall : (H : Type) → List (DataW H) → Bool := fun _ ds => decide (uptoBulkAll ds ≤ 1048576)
def OpenSpec.upto (s : _root_.Go.ChangeSpec) : _root_.Go.OpenSpec := { _root_.Go.OpenSpec.ofChange s with cond := some uptoSmall }

/-- 'varvelaw09.ApplyTorn', WHERE WHAT IT READS IS OF BULK AT MOST 1048576: true; the input reads as it did. -/
def applyTornUptoRow : OpenClaim := { program := "ytjdpjimdoknlnaa", sum := "62e84faad0da3d26059d825daf4f8015d3557ea0b5b8a804628fd360a84bfae3", func := "varve/varvelaw09.ApplyTorn", spec := "applyTorn", unfollowed := true, recurses := true, plainKeys := false, apart := false, narrowed := true }
def ApplyTornUptoSaid : Prop := applyTornUptoRow.holds Try.pinned (OpenSpec.upto applyTornSpec)

/-- 'varvelaw09.ApplyApart', WHERE WHAT IT READS IS OF BULK AT MOST 1048576: true; the input reads as it did. -/
def applyApartUptoRow : OpenClaim := { program := "ytjdpjimdoknlnaa", sum := "62e84faad0da3d26059d825daf4f8015d3557ea0b5b8a804628fd360a84bfae3", func := "varve/varvelaw09.ApplyApart", spec := "applyApart", unfollowed := true, recurses := true, plainKeys := false, apart := false, narrowed := true }
def ApplyApartUptoSaid : Prop := applyApartUptoRow.holds Try.pinned (OpenSpec.upto applyApartSpec)

/-- 'varvelaw11.LogLives', WHERE WHAT IT READS IS OF BULK AT MOST 1048576: true; the input reads as it did. -/
def logLivesUptoRow : OpenClaim := { program := "ytjdpjimdoknlnaa", sum := "62e84faad0da3d26059d825daf4f8015d3557ea0b5b8a804628fd360a84bfae3", func := "varve/varvelaw11.LogLives", spec := "logLives", unfollowed := true, recurses := true, plainKeys := false, apart := false, narrowed := true }
def LogLivesUptoSaid : Prop := logLivesUptoRow.holds Try.pinned (OpenSpec.upto logLivesSpec)

/-- 'varvelaw11.LogGhosts', WHERE WHAT IT READS IS OF BULK AT MOST 1048576: true; the input reads as it did. -/
def logGhostsUptoRow : OpenClaim := { program := "ytjdpjimdoknlnaa", sum := "62e84faad0da3d26059d825daf4f8015d3557ea0b5b8a804628fd360a84bfae3", func := "varve/varvelaw11.LogGhosts", spec := "logGhosts", unfollowed := true, recurses := true, plainKeys := false, apart := false, narrowed := true }
def LogGhostsUptoSaid : Prop := logGhostsUptoRow.holds Try.pinned (OpenSpec.upto logGhostsSpec)

/-- 'varvelaw11.LogPlays', WHERE WHAT IT READS IS OF BULK AT MOST 1048576: true; the input reads as it did. -/
def logPlaysUptoRow : OpenClaim := { program := "ytjdpjimdoknlnaa", sum := "62e84faad0da3d26059d825daf4f8015d3557ea0b5b8a804628fd360a84bfae3", func := "varve/varvelaw11.LogPlays", spec := "logPlays", plainKeys := false, apart := false, narrowed := true }
def LogPlaysUptoSaid : Prop := logPlaysUptoRow.holds Try.pinned (OpenSpec.upto logPlaysSpec)

/-- 'varvelaw11.LogFails', WHERE WHAT IT READS IS OF BULK AT MOST 1048576: true; the input reads as it did. -/
def logFailsUptoRow : OpenClaim := { program := "ytjdpjimdoknlnaa", sum := "62e84faad0da3d26059d825daf4f8015d3557ea0b5b8a804628fd360a84bfae3", func := "varve/varvelaw11.LogFails", spec := "logFails", unfollowed := true, recurses := true, plainKeys := false, apart := false, narrowed := true }
def LogFailsUptoSaid : Prop := logFailsUptoRow.holds Try.pinned (OpenSpec.upto logFailsSpec)

/-- 'varvelaw11.LogRound', WHERE WHAT IT READS IS OF BULK AT MOST 1048576: true; the input reads as it did. -/
def logRoundUptoRow : OpenClaim := { program := "ytjdpjimdoknlnaa", sum := "62e84faad0da3d26059d825daf4f8015d3557ea0b5b8a804628fd360a84bfae3", func := "varve/varvelaw11.LogRound", spec := "logRound", unfollowed := true, recurses := true, plainKeys := false, apart := false, narrowed := true }
def LogRoundUptoSaid : Prop := logRoundUptoRow.holds Try.pinned (OpenSpec.upto logRoundSpec)

/-- 'varvelaw13.CacheTorn', WHERE WHAT IT READS IS OF BULK AT MOST 1048576: true; the input reads as it did. -/
def cacheTornUptoRow : OpenClaim := { program := "ytjdpjimdoknlnaa", sum := "62e84faad0da3d26059d825daf4f8015d3557ea0b5b8a804628fd360a84bfae3", func := "varve/varvelaw13.CacheTorn", spec := "cacheTorn", unfollowed := true, recurses := true, plainKeys := false, apart := false, narrowed := true }
def CacheTornUptoSaid : Prop := cacheTornUptoRow.holds Try.pinned (OpenSpec.upto cacheTornSpec)

/-- 'varvelaw13.CacheSees', WHERE WHAT IT READS IS OF BULK AT MOST 1048576: true; the input reads as it did. -/
def cacheSeesUptoRow : OpenClaim := { program := "ytjdpjimdoknlnaa", sum := "62e84faad0da3d26059d825daf4f8015d3557ea0b5b8a804628fd360a84bfae3", func := "varve/varvelaw13.CacheSees", spec := "cacheSees", unfollowed := true, recurses := true, plainKeys := false, apart := false, narrowed := true }
def CacheSeesUptoSaid : Prop := cacheSeesUptoRow.holds Try.pinned (OpenSpec.upto cacheSeesSpec)

/-- 'varvelaw13.CachePins', WHERE WHAT IT READS IS OF BULK AT MOST 1048576: true; the input reads as it did. -/
def cachePinsUptoRow : OpenClaim := { program := "ytjdpjimdoknlnaa", sum := "62e84faad0da3d26059d825daf4f8015d3557ea0b5b8a804628fd360a84bfae3", func := "varve/varvelaw13.CachePins", spec := "cachePins", unfollowed := true, recurses := true, plainKeys := false, apart := false, narrowed := true }
def CachePinsUptoSaid : Prop := cachePinsUptoRow.holds Try.pinned (OpenSpec.upto cachePinsSpec)

/-- 'varvelaw13.CacheWal', WHERE WHAT IT READS IS OF BULK AT MOST 1048576: true; the input reads as it did. -/
def cacheWalUptoRow : OpenClaim := { program := "ytjdpjimdoknlnaa", sum := "62e84faad0da3d26059d825daf4f8015d3557ea0b5b8a804628fd360a84bfae3", func := "varve/varvelaw13.CacheWal", spec := "cacheWal", unfollowed := true, recurses := true, plainKeys := false, apart := false, narrowed := true }
def CacheWalUptoSaid : Prop := cacheWalUptoRow.holds Try.pinned (OpenSpec.upto cacheWalSpec)

/-- 'varvelaw13.CacheLasts', WHERE WHAT IT READS IS OF BULK AT MOST 1048576: true; the input reads as it did. -/
def cacheLastsUptoRow : OpenClaim := { program := "ytjdpjimdoknlnaa", sum := "62e84faad0da3d26059d825daf4f8015d3557ea0b5b8a804628fd360a84bfae3", func := "varve/varvelaw13.CacheLasts", spec := "cacheLasts", unfollowed := true, recurses := true, plainKeys := false, apart := false, narrowed := true }
def CacheLastsUptoSaid : Prop := cacheLastsUptoRow.holds Try.pinned (OpenSpec.upto cacheLastsSpec)

end Rows
end Go.Proofs.Ytjdpjimdoknlnaa
