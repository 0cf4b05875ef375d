/-
  NARROWER THAN 'FOR EVERY INPUT', by the rows' own cells (each row's printed sentence says how): KeysNonces: laid · KeysLabels: laid · VaultBack: laid · VaultStays: laid · VaultChain: laid.
  DERIVED. THE GIVEN ROWS OF THIS SEAT. 5 by the template 'for every input the law returns true; each argument reads behind the call as it read before'; 0 by the template 'total and deterministic' (their statements: YtpnhedlciamegaaDoorTotals.lean).
  GIVEN WITH THE SEED: the statements are not yours to turn. If you find one false, say at which input.
  Laid BY PROGRAM, IN A SANDBOX (cutbox-rows.mjs): the forced cells as the released guide's own fill.sh prints them over the translation 44f2909aea73b02c… (all of the seat's roots in one cut). By AI agents, Wed Nov 11 2026. No macro, syntax, notation, axiom, sorry.
-/
import Derived.Test.YtpnhedlciamegaaDoorChecked
import GoSem.Claim
import GoSem.ClaimJoined
import GoSem.ClaimMapViews
import Derived.JoinedTies
import Derived.KernelRfl
namespace Go.Proofs.YtpnhedlciamegaaDoor
/- THE CELL 'sum', in the pinned program and in every row, IS THE sha256 OF THE DUMP (.gsa) THAT YtpnhedlciamegaaDoorProg.lean LOADS. Nothing in Lean hashes anything: it is a label: what it is worth is what the hold of that sum in a sandbox is worth. -/
noncomputable def Tryd.pinned : Pinned := { name := "ytpnhedlciamegaadoor", sum := "44f2909aea73b02c030b9d1d52cdf3a2c9cbc5685a4e70ef18d3b540b1def2d5", checked := Tryd.checked }
namespace Rows
def none {H : Type} : Left H := { results := [], args := [] }

/- WHAT THE LISTED PACKAGE-LEVEL VARIABLES READ AS WHEN THE CALL BEGINS. Each datum BY PROGRAM (the guide's laid-datum.mjs) off the statement by which the dump's own 'gosem.cut.vars' lays the variable. In a bare row this is a premise. The card (YtpnhedlciamegaaDoorCards.lean) ties it to the program's text. -/
def laid_cryptex_sha_ks {H : Type} : DataW H := .agg [.lit (.int .u32 1116352408), .lit (.int .u32 1899447441), .lit (.int .u32 3049323471), .lit (.int .u32 3921009573), .lit (.int .u32 961987163), .lit (.int .u32 1508970993), .lit (.int .u32 2453635748), .lit (.int .u32 2870763221), .lit (.int .u32 3624381080), .lit (.int .u32 310598401), .lit (.int .u32 607225278), .lit (.int .u32 1426881987), .lit (.int .u32 1925078388), .lit (.int .u32 2162078206), .lit (.int .u32 2614888103), .lit (.int .u32 3248222580), .lit (.int .u32 3835390401), .lit (.int .u32 4022224774), .lit (.int .u32 264347078), .lit (.int .u32 604807628), .lit (.int .u32 770255983), .lit (.int .u32 1249150122), .lit (.int .u32 1555081692), .lit (.int .u32 1996064986), .lit (.int .u32 2554220882), .lit (.int .u32 2821834349), .lit (.int .u32 2952996808), .lit (.int .u32 3210313671), .lit (.int .u32 3336571891), .lit (.int .u32 3584528711), .lit (.int .u32 113926993), .lit (.int .u32 338241895), .lit (.int .u32 666307205), .lit (.int .u32 773529912), .lit (.int .u32 1294757372), .lit (.int .u32 1396182291), .lit (.int .u32 1695183700), .lit (.int .u32 1986661051), .lit (.int .u32 2177026350), .lit (.int .u32 2456956037), .lit (.int .u32 2730485921), .lit (.int .u32 2820302411), .lit (.int .u32 3259730800), .lit (.int .u32 3345764771), .lit (.int .u32 3516065817), .lit (.int .u32 3600352804), .lit (.int .u32 4094571909), .lit (.int .u32 275423344), .lit (.int .u32 430227734), .lit (.int .u32 506948616), .lit (.int .u32 659060556), .lit (.int .u32 883997877), .lit (.int .u32 958139571), .lit (.int .u32 1322822218), .lit (.int .u32 1537002063), .lit (.int .u32 1747873779), .lit (.int .u32 1955562222), .lit (.int .u32 2024104815), .lit (.int .u32 2227730452), .lit (.int .u32 2361852424), .lit (.int .u32 2428436474), .lit (.int .u32 2756734187), .lit (.int .u32 3204031479), .lit (.int .u32 3329325298)]
def laid_cryptex_sha_begin {H : Type} : DataW H := .agg [.lit (.int .u32 1779033703), .lit (.int .u32 3144134277), .lit (.int .u32 1013904242), .lit (.int .u32 2773480762), .lit (.int .u32 1359893119), .lit (.int .u32 2600822924), .lit (.int .u32 528734635), .lit (.int .u32 1541459225)]
def laid_cryptex_keys_may {H : Type} : DataW H := .map [(.string [99, 111, 108, 108], .agg [.agg [.lit (.string [98, 108, 111, 98]), .lit (.int .i64 1)], .agg [.lit (.string [119, 111, 114, 100]), .lit (.int .i64 2)]]), (.string [101, 112, 111, 99, 104], .agg [.agg [.lit (.string [99, 111, 108, 108]), .lit (.int .i64 1)], .agg [.lit (.string []), .lit (.int .i64 0)]]), (.string [114, 111, 111, 116], .agg [.agg [.lit (.string [101, 112, 111, 99, 104]), .lit (.int .i64 1)], .agg [.lit (.string []), .lit (.int .i64 0)]])]

/-- 'cryptexlaw14.KeysNonces': WHATEVER THE INPUT: true; the input reads as it did. -/
def keysNoncesSpec : ChangeSpec := { name := "keysNonces", fn := fun _ => fun
  | [d1, d2] => { results := [.lit (.bool true)], args := [d1, d2] }
  | _ => none }
def keysNoncesRow : OpenClaim := { program := "ytpnhedlciamegaadoor", sum := "44f2909aea73b02c030b9d1d52cdf3a2c9cbc5685a4e70ef18d3b540b1def2d5", func := "cryptex/cryptexlaw14.KeysNonces", spec := "keysNonces", inPlace := ["internal/abi.NoEscape", "internal/bytealg.MakeNoZero", "slices.overlaps[string]"], unfollowed := true, recurses := true, named := ["cryptex/sha.begin", "cryptex/sha.ks", "cryptex/keys.may"], apart := false, laid := [("cryptex/sha.ks", laid_cryptex_sha_ks), ("cryptex/sha.begin", laid_cryptex_sha_begin), ("cryptex/keys.may", laid_cryptex_keys_may)] }
def KeysNoncesSaid : Prop := keysNoncesRow.holds Tryd.pinned (OpenSpec.ofChange keysNoncesSpec)

/-- ITS FALSE NEIGHBOUR: 'it returns false'. Refute it at one input. -/
def keysNoncesWrong : ChangeSpec := { name := "keysNonces", fn := fun _ => fun
  | [d1, d2] => { results := [.lit (.bool false)], args := [d1, d2] }
  | _ => none }
def KeysNoncesWrongFalsely : Prop := keysNoncesRow.holds Tryd.pinned (OpenSpec.ofChange keysNoncesWrong)

/-- 'cryptexlaw14.KeysLabels': WHATEVER THE INPUT: true; the input reads as it did. -/
def keysLabelsSpec : ChangeSpec := { name := "keysLabels", fn := fun _ => fun
  | [d1, d2] => { results := [.lit (.bool true)], args := [d1, d2] }
  | _ => none }
def keysLabelsRow : OpenClaim := { program := "ytpnhedlciamegaadoor", sum := "44f2909aea73b02c030b9d1d52cdf3a2c9cbc5685a4e70ef18d3b540b1def2d5", func := "cryptex/cryptexlaw14.KeysLabels", spec := "keysLabels", inPlace := ["internal/abi.NoEscape", "internal/bytealg.MakeNoZero", "slices.overlaps[string]"], unfollowed := true, recurses := true, named := ["cryptex/sha.begin", "cryptex/sha.ks", "cryptex/keys.may"], apart := false, laid := [("cryptex/sha.ks", laid_cryptex_sha_ks), ("cryptex/sha.begin", laid_cryptex_sha_begin), ("cryptex/keys.may", laid_cryptex_keys_may)] }
def KeysLabelsSaid : Prop := keysLabelsRow.holds Tryd.pinned (OpenSpec.ofChange keysLabelsSpec)

/-- ITS FALSE NEIGHBOUR: 'it returns false'. Refute it at one input. -/
def keysLabelsWrong : ChangeSpec := { name := "keysLabels", fn := fun _ => fun
  | [d1, d2] => { results := [.lit (.bool false)], args := [d1, d2] }
  | _ => none }
def KeysLabelsWrongFalsely : Prop := keysLabelsRow.holds Tryd.pinned (OpenSpec.ofChange keysLabelsWrong)

/-- 'cryptexlaw18.VaultBack': WHATEVER THE INPUT: true; the input reads as it did. -/
def vaultBackSpec : ChangeSpec := { name := "vaultBack", fn := fun _ => fun
  | [d1, d2, d3] => { results := [.lit (.bool true)], args := [d1, d2, d3] }
  | _ => none }
def vaultBackRow : OpenClaim := { program := "ytpnhedlciamegaadoor", sum := "44f2909aea73b02c030b9d1d52cdf3a2c9cbc5685a4e70ef18d3b540b1def2d5", func := "cryptex/cryptexlaw18.VaultBack", spec := "vaultBack", inPlace := ["internal/abi.NoEscape", "internal/bytealg.MakeNoZero", "slices.overlaps[cryptex/vault.Item]"], unfollowed := true, recurses := true, named := ["cryptex/sha.begin", "cryptex/sha.ks"], apart := false, laid := [("cryptex/sha.ks", laid_cryptex_sha_ks), ("cryptex/sha.begin", laid_cryptex_sha_begin)] }
def VaultBackSaid : Prop := vaultBackRow.holds Tryd.pinned (OpenSpec.ofChange vaultBackSpec)

/-- ITS FALSE NEIGHBOUR: 'it returns false'. Refute it at one input. -/
def vaultBackWrong : ChangeSpec := { name := "vaultBack", fn := fun _ => fun
  | [d1, d2, d3] => { results := [.lit (.bool false)], args := [d1, d2, d3] }
  | _ => none }
def VaultBackWrongFalsely : Prop := vaultBackRow.holds Tryd.pinned (OpenSpec.ofChange vaultBackWrong)

/-- 'cryptexlaw18.VaultStays': WHATEVER THE INPUT: true; the input reads as it did. -/
def vaultStaysSpec : ChangeSpec := { name := "vaultStays", fn := fun _ => fun
  | [d] => { results := [.lit (.bool true)], args := [d] }
  | _ => none }
def vaultStaysRow : OpenClaim := { program := "ytpnhedlciamegaadoor", sum := "44f2909aea73b02c030b9d1d52cdf3a2c9cbc5685a4e70ef18d3b540b1def2d5", func := "cryptex/cryptexlaw18.VaultStays", spec := "vaultStays", inPlace := ["internal/abi.NoEscape", "internal/bytealg.MakeNoZero", "slices.overlaps[cryptex/vault.Item]"], unfollowed := true, recurses := true, named := ["cryptex/sha.begin", "cryptex/sha.ks"], apart := false, laid := [("cryptex/sha.ks", laid_cryptex_sha_ks), ("cryptex/sha.begin", laid_cryptex_sha_begin)] }
def VaultStaysSaid : Prop := vaultStaysRow.holds Tryd.pinned (OpenSpec.ofChange vaultStaysSpec)

/-- ITS FALSE NEIGHBOUR: 'it returns false'. Refute it at one input. -/
def vaultStaysWrong : ChangeSpec := { name := "vaultStays", fn := fun _ => fun
  | [d] => { results := [.lit (.bool false)], args := [d] }
  | _ => none }
def VaultStaysWrongFalsely : Prop := vaultStaysRow.holds Tryd.pinned (OpenSpec.ofChange vaultStaysWrong)

/-- 'cryptexlaw18.VaultChain': WHATEVER THE INPUT: true; the input reads as it did. -/
def vaultChainSpec : ChangeSpec := { name := "vaultChain", fn := fun _ => fun
  | [d1, d2] => { results := [.lit (.bool true)], args := [d1, d2] }
  | _ => none }
def vaultChainRow : OpenClaim := { program := "ytpnhedlciamegaadoor", sum := "44f2909aea73b02c030b9d1d52cdf3a2c9cbc5685a4e70ef18d3b540b1def2d5", func := "cryptex/cryptexlaw18.VaultChain", spec := "vaultChain", inPlace := ["internal/abi.NoEscape", "internal/bytealg.MakeNoZero", "slices.overlaps[cryptex/vault.Item]"], unfollowed := true, recurses := true, named := ["cryptex/sha.begin", "cryptex/sha.ks"], apart := false, laid := [("cryptex/sha.ks", laid_cryptex_sha_ks), ("cryptex/sha.begin", laid_cryptex_sha_begin)] }
def VaultChainSaid : Prop := vaultChainRow.holds Tryd.pinned (OpenSpec.ofChange vaultChainSpec)

/-- ITS FALSE NEIGHBOUR: 'it returns false'. Refute it at one input. -/
def vaultChainWrong : ChangeSpec := { name := "vaultChain", fn := fun _ => fun
  | [d1, d2] => { results := [.lit (.bool false)], args := [d1, d2] }
  | _ => none }
def VaultChainWrongFalsely : Prop := vaultChainRow.holds Tryd.pinned (OpenSpec.ofChange vaultChainWrong)

/- THE SECOND FORM. 'bulk': how many values and letters a reading holds, each counted each time it is reached (what is shared counts as often as it is met; a slice's spare places count too). A statement '..UptoSaid' is the law's where the arguments, and the package variables that the reading takes, are together of bulk at most 1048576: NARROWER than '..Said'. Prove '..Said' where nothing that the law and all that it calls make is longer than what came in: it says more and counts as full. Else prove '..UptoSaid'. A law counts once. -/
mutual
def uptoBulk {H : Type} : DataW H → Nat
  | .lit (.string bytes) => bytes.length + 1
  | .lit _ => 1
  | .nil => 1
  | .ptr d => uptoBulk d + 1
  | .slice elems spare => uptoBulkAll elems + uptoBulkAll spare + 1
  | .agg parts => uptoBulkAll parts + 1
  | .iface _ d => uptoBulk d + 1
  | .map entries => uptoBulkEntries entries + 1
  | .held _ => 1
def uptoBulkAll {H : Type} : List (DataW H) → Nat
  | [] => 0
  | d :: r => uptoBulk d + uptoBulkAll r
def uptoBulkEntries {H : Type} : List (Lit × DataW H) → Nat
  | [] => 0
  | x :: r => uptoBulkEntry x + uptoBulkEntries r
def uptoBulkEntry {H : Type} : Lit × DataW H → Nat
  | (.string bytes, d) => bytes.length + uptoBulk d + 1
  | (_, d) => uptoBulk d + 1
 end
def uptoSmall : (H : Type) → List (DataW H) → Bool := fun _ ds => decide (uptoBulkAll ds ≤ 1048576)
def OpenSpec.upto (s : _root_.Go.ChangeSpec) : _root_.Go.OpenSpec := { _root_.Go.OpenSpec.ofChange s with cond := some uptoSmall }

/-- 'cryptexlaw14.KeysNonces', WHERE WHAT IT READS IS OF BULK AT MOST 1048576: true; the input reads as it did. -/
def keysNoncesUptoRow : OpenClaim := { program := "ytpnhedlciamegaadoor", sum := "44f2909aea73b02c030b9d1d52cdf3a2c9cbc5685a4e70ef18d3b540b1def2d5", func := "cryptex/cryptexlaw14.KeysNonces", spec := "keysNonces", inPlace := ["internal/abi.NoEscape", "internal/bytealg.MakeNoZero", "slices.overlaps[string]"], unfollowed := true, recurses := true, named := ["cryptex/sha.begin", "cryptex/sha.ks", "cryptex/keys.may"], apart := false, laid := [("cryptex/sha.ks", laid_cryptex_sha_ks), ("cryptex/sha.begin", laid_cryptex_sha_begin), ("cryptex/keys.may", laid_cryptex_keys_may)], narrowed := true }
def KeysNoncesUptoSaid : Prop := keysNoncesUptoRow.holds Tryd.pinned (OpenSpec.upto keysNoncesSpec)

/-- 'cryptexlaw14.KeysLabels', WHERE WHAT IT READS IS OF BULK AT MOST 1048576: true; the input reads as it did. -/
def keysLabelsUptoRow : OpenClaim := { program := "ytpnhedlciamegaadoor", sum := "44f2909aea73b02c030b9d1d52cdf3a2c9cbc5685a4e70ef18d3b540b1def2d5", func := "cryptex/cryptexlaw14.KeysLabels", spec := "keysLabels", inPlace := ["internal/abi.NoEscape", "internal/bytealg.MakeNoZero", "slices.overlaps[string]"], unfollowed := true, recurses := true, named := ["cryptex/sha.begin", "cryptex/sha.ks", "cryptex/keys.may"], apart := false, laid := [("cryptex/sha.ks", laid_cryptex_sha_ks), ("cryptex/sha.begin", laid_cryptex_sha_begin), ("cryptex/keys.may", laid_cryptex_keys_may)], narrowed := true }
def KeysLabelsUptoSaid : Prop := keysLabelsUptoRow.holds Tryd.pinned (OpenSpec.upto keysLabelsSpec)

/-- 'cryptexlaw18.VaultBack', WHERE WHAT IT READS IS OF BULK AT MOST 1048576: true; the input reads as it did. -/
def vaultBackUptoRow : OpenClaim := { program := "ytpnhedlciamegaadoor", sum := "44f2909aea73b02c030b9d1d52cdf3a2c9cbc5685a4e70ef18d3b540b1def2d5", func := "cryptex/cryptexlaw18.VaultBack", spec := "vaultBack", inPlace := ["internal/abi.NoEscape", "internal/bytealg.MakeNoZero", "slices.overlaps[cryptex/vault.Item]"], unfollowed := true, recurses := true, named := ["cryptex/sha.begin", "cryptex/sha.ks"], apart := false, laid := [("cryptex/sha.ks", laid_cryptex_sha_ks), ("cryptex/sha.begin", laid_cryptex_sha_begin)], narrowed := true }
def VaultBackUptoSaid : Prop := vaultBackUptoRow.holds Tryd.pinned (OpenSpec.upto vaultBackSpec)

/-- 'cryptexlaw18.VaultStays', WHERE WHAT IT READS IS OF BULK AT MOST 1048576: true; the input reads as it did. -/
def vaultStaysUptoRow : OpenClaim := { program := "ytpnhedlciamegaadoor", sum := "44f2909aea73b02c030b9d1d52cdf3a2c9cbc5685a4e70ef18d3b540b1def2d5", func := "cryptex/cryptexlaw18.VaultStays", spec := "vaultStays", inPlace := ["internal/abi.NoEscape", "internal/bytealg.MakeNoZero", "slices.overlaps[cryptex/vault.Item]"], unfollowed := true, recurses := true, named := ["cryptex/sha.begin", "cryptex/sha.ks"], apart := false, laid := [("cryptex/sha.ks", laid_cryptex_sha_ks), ("cryptex/sha.begin", laid_cryptex_sha_begin)], narrowed := true }
def VaultStaysUptoSaid : Prop := vaultStaysUptoRow.holds Tryd.pinned (OpenSpec.upto vaultStaysSpec)

/-- 'cryptexlaw18.VaultChain', WHERE WHAT IT READS IS OF BULK AT MOST 1048576: true; the input reads as it did. -/
def vaultChainUptoRow : OpenClaim := { program := "ytpnhedlciamegaadoor", sum := "44f2909aea73b02c030b9d1d52cdf3a2c9cbc5685a4e70ef18d3b540b1def2d5", func := "cryptex/cryptexlaw18.VaultChain", spec := "vaultChain", inPlace := ["internal/abi.NoEscape", "internal/bytealg.MakeNoZero", "slices.overlaps[cryptex/vault.Item]"], unfollowed := true, recurses := true, named := ["cryptex/sha.begin", "cryptex/sha.ks"], apart := false, laid := [("cryptex/sha.ks", laid_cryptex_sha_ks), ("cryptex/sha.begin", laid_cryptex_sha_begin)], narrowed := true }
def VaultChainUptoSaid : Prop := vaultChainUptoRow.holds Tryd.pinned (OpenSpec.upto vaultChainSpec)

end Rows
end Go.Proofs.YtpnhedlciamegaaDoor
