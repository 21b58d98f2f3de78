/- The law SubZero of topiarylaw18, run by the kernel: by the list's length, and whether its numbers are below zero. Printed by program. -/
import Derived.Test.YtfekfnapgfddbaaGreatAw18
set_option maxRecDepth 100000
set_option linter.unusedVariables false
namespace Go.Am
open Go
noncomputable abbrev SZ (S0 : Store) (q : Bool) (l : List LV) : Bool := okT (kcall Cb (T1 Tb n_law18_awake (.bool true, S0)) 10000 50 n_law18_SubZero [.sl q l] [])
abbrev iP (m : Nat) : LV := .int .i64 (.ofNat m)
abbrev iN (m : Nat) : LV := .int .i64 (.negSucc m)
theorem sz0_ (S0 : Store) (q : Bool) : SZ S0 q [] = true := by cases q <;> kernel_rfl
theorem sz1_P (S0 : Store) (q : Bool) (a : Nat) : SZ S0 q [iP a] = true := by cases q <;> kernel_rfl
theorem sz1_N (S0 : Store) (q : Bool) (a : Nat) : SZ S0 q [iN a] = true := by cases q <;> kernel_rfl
theorem sz2_PP (S0 : Store) (q : Bool) (a b : Nat) : SZ S0 q [iP a, iP b] = true := by cases q <;> kernel_rfl
theorem sz2_PN (S0 : Store) (q : Bool) (a b : Nat) : SZ S0 q [iP a, iN b] = true := by cases q <;> kernel_rfl
theorem sz2_NP (S0 : Store) (q : Bool) (a b : Nat) : SZ S0 q [iN a, iP b] = true := by cases q <;> kernel_rfl
theorem sz2_NN (S0 : Store) (q : Bool) (a b : Nat) : SZ S0 q [iN a, iN b] = true := by cases q <;> kernel_rfl
theorem sz3_PPP (S0 : Store) (q : Bool) (a b c : Nat) : SZ S0 q [iP a, iP b, iP c] = true := by cases q <;> kernel_rfl
theorem sz3_PPN (S0 : Store) (q : Bool) (a b c : Nat) : SZ S0 q [iP a, iP b, iN c] = true := by cases q <;> kernel_rfl
theorem sz3_PNP (S0 : Store) (q : Bool) (a b c : Nat) : SZ S0 q [iP a, iN b, iP c] = true := by cases q <;> kernel_rfl
theorem sz3_PNN (S0 : Store) (q : Bool) (a b c : Nat) : SZ S0 q [iP a, iN b, iN c] = true := by cases q <;> kernel_rfl
theorem sz3_NPP (S0 : Store) (q : Bool) (a b c : Nat) : SZ S0 q [iN a, iP b, iP c] = true := by cases q <;> kernel_rfl
theorem sz3_NPN (S0 : Store) (q : Bool) (a b c : Nat) : SZ S0 q [iN a, iP b, iN c] = true := by cases q <;> kernel_rfl
theorem sz3_NNP (S0 : Store) (q : Bool) (a b c : Nat) : SZ S0 q [iN a, iN b, iP c] = true := by cases q <;> kernel_rfl
theorem sz3_NNN (S0 : Store) (q : Bool) (a b c : Nat) : SZ S0 q [iN a, iN b, iN c] = true := by cases q <;> kernel_rfl
theorem sz4_PPPP (S0 : Store) (q : Bool) (a b c d : Nat) : SZ S0 q [iP a, iP b, iP c, iP d] = true := by cases q <;> kernel_rfl
theorem sz4_PPPN (S0 : Store) (q : Bool) (a b c d : Nat) : SZ S0 q [iP a, iP b, iP c, iN d] = true := by cases q <;> kernel_rfl
theorem sz4_PPNP (S0 : Store) (q : Bool) (a b c d : Nat) : SZ S0 q [iP a, iP b, iN c, iP d] = true := by cases q <;> kernel_rfl
theorem sz4_PPNN (S0 : Store) (q : Bool) (a b c d : Nat) : SZ S0 q [iP a, iP b, iN c, iN d] = true := by cases q <;> kernel_rfl
theorem sz4_PNPP (S0 : Store) (q : Bool) (a b c d : Nat) : SZ S0 q [iP a, iN b, iP c, iP d] = true := by cases q <;> kernel_rfl
theorem sz4_PNPN (S0 : Store) (q : Bool) (a b c d : Nat) : SZ S0 q [iP a, iN b, iP c, iN d] = true := by cases q <;> kernel_rfl
theorem sz4_PNNP (S0 : Store) (q : Bool) (a b c d : Nat) : SZ S0 q [iP a, iN b, iN c, iP d] = true := by cases q <;> kernel_rfl
theorem sz4_PNNN (S0 : Store) (q : Bool) (a b c d : Nat) : SZ S0 q [iP a, iN b, iN c, iN d] = true := by cases q <;> kernel_rfl
theorem sz4_NPPP (S0 : Store) (q : Bool) (a b c d : Nat) : SZ S0 q [iN a, iP b, iP c, iP d] = true := by cases q <;> kernel_rfl
theorem sz4_NPPN (S0 : Store) (q : Bool) (a b c d : Nat) : SZ S0 q [iN a, iP b, iP c, iN d] = true := by cases q <;> kernel_rfl
theorem sz4_NPNP (S0 : Store) (q : Bool) (a b c d : Nat) : SZ S0 q [iN a, iP b, iN c, iP d] = true := by cases q <;> kernel_rfl
theorem sz4_NPNN (S0 : Store) (q : Bool) (a b c d : Nat) : SZ S0 q [iN a, iP b, iN c, iN d] = true := by cases q <;> kernel_rfl
theorem sz4_NNPP (S0 : Store) (q : Bool) (a b c d : Nat) : SZ S0 q [iN a, iN b, iP c, iP d] = true := by cases q <;> kernel_rfl
theorem sz4_NNPN (S0 : Store) (q : Bool) (a b c d : Nat) : SZ S0 q [iN a, iN b, iP c, iN d] = true := by cases q <;> kernel_rfl
theorem sz4_NNNP (S0 : Store) (q : Bool) (a b c d : Nat) : SZ S0 q [iN a, iN b, iN c, iP d] = true := by cases q <;> kernel_rfl
theorem sz4_NNNN (S0 : Store) (q : Bool) (a b c d : Nat) : SZ S0 q [iN a, iN b, iN c, iN d] = true := by cases q <;> kernel_rfl
theorem sz5_PPPPP (S0 : Store) (q : Bool) (a b c d e : Nat) : SZ S0 q [iP a, iP b, iP c, iP d, iP e] = true := by cases q <;> kernel_rfl
theorem sz5_PPPPN (S0 : Store) (q : Bool) (a b c d e : Nat) : SZ S0 q [iP a, iP b, iP c, iP d, iN e] = true := by cases q <;> kernel_rfl
theorem sz5_PPPNP (S0 : Store) (q : Bool) (a b c d e : Nat) : SZ S0 q [iP a, iP b, iP c, iN d, iP e] = true := by cases q <;> kernel_rfl
theorem sz5_PPPNN (S0 : Store) (q : Bool) (a b c d e : Nat) : SZ S0 q [iP a, iP b, iP c, iN d, iN e] = true := by cases q <;> kernel_rfl
theorem sz5_PPNPP (S0 : Store) (q : Bool) (a b c d e : Nat) : SZ S0 q [iP a, iP b, iN c, iP d, iP e] = true := by cases q <;> kernel_rfl
theorem sz5_PPNPN (S0 : Store) (q : Bool) (a b c d e : Nat) : SZ S0 q [iP a, iP b, iN c, iP d, iN e] = true := by cases q <;> kernel_rfl
theorem sz5_PPNNP (S0 : Store) (q : Bool) (a b c d e : Nat) : SZ S0 q [iP a, iP b, iN c, iN d, iP e] = true := by cases q <;> kernel_rfl
theorem sz5_PPNNN (S0 : Store) (q : Bool) (a b c d e : Nat) : SZ S0 q [iP a, iP b, iN c, iN d, iN e] = true := by cases q <;> kernel_rfl
theorem sz5_PNPPP (S0 : Store) (q : Bool) (a b c d e : Nat) : SZ S0 q [iP a, iN b, iP c, iP d, iP e] = true := by cases q <;> kernel_rfl
theorem sz5_PNPPN (S0 : Store) (q : Bool) (a b c d e : Nat) : SZ S0 q [iP a, iN b, iP c, iP d, iN e] = true := by cases q <;> kernel_rfl
theorem sz5_PNPNP (S0 : Store) (q : Bool) (a b c d e : Nat) : SZ S0 q [iP a, iN b, iP c, iN d, iP e] = true := by cases q <;> kernel_rfl
theorem sz5_PNPNN (S0 : Store) (q : Bool) (a b c d e : Nat) : SZ S0 q [iP a, iN b, iP c, iN d, iN e] = true := by cases q <;> kernel_rfl
theorem sz5_PNNPP (S0 : Store) (q : Bool) (a b c d e : Nat) : SZ S0 q [iP a, iN b, iN c, iP d, iP e] = true := by cases q <;> kernel_rfl
theorem sz5_PNNPN (S0 : Store) (q : Bool) (a b c d e : Nat) : SZ S0 q [iP a, iN b, iN c, iP d, iN e] = true := by cases q <;> kernel_rfl
theorem sz5_PNNNP (S0 : Store) (q : Bool) (a b c d e : Nat) : SZ S0 q [iP a, iN b, iN c, iN d, iP e] = true := by cases q <;> kernel_rfl
theorem sz5_PNNNN (S0 : Store) (q : Bool) (a b c d e : Nat) : SZ S0 q [iP a, iN b, iN c, iN d, iN e] = true := by cases q <;> kernel_rfl
theorem sz5_NPPPP (S0 : Store) (q : Bool) (a b c d e : Nat) : SZ S0 q [iN a, iP b, iP c, iP d, iP e] = true := by cases q <;> kernel_rfl
theorem sz5_NPPPN (S0 : Store) (q : Bool) (a b c d e : Nat) : SZ S0 q [iN a, iP b, iP c, iP d, iN e] = true := by cases q <;> kernel_rfl
theorem sz5_NPPNP (S0 : Store) (q : Bool) (a b c d e : Nat) : SZ S0 q [iN a, iP b, iP c, iN d, iP e] = true := by cases q <;> kernel_rfl
theorem sz5_NPPNN (S0 : Store) (q : Bool) (a b c d e : Nat) : SZ S0 q [iN a, iP b, iP c, iN d, iN e] = true := by cases q <;> kernel_rfl
theorem sz5_NPNPP (S0 : Store) (q : Bool) (a b c d e : Nat) : SZ S0 q [iN a, iP b, iN c, iP d, iP e] = true := by cases q <;> kernel_rfl
theorem sz5_NPNPN (S0 : Store) (q : Bool) (a b c d e : Nat) : SZ S0 q [iN a, iP b, iN c, iP d, iN e] = true := by cases q <;> kernel_rfl
theorem sz5_NPNNP (S0 : Store) (q : Bool) (a b c d e : Nat) : SZ S0 q [iN a, iP b, iN c, iN d, iP e] = true := by cases q <;> kernel_rfl
theorem sz5_NPNNN (S0 : Store) (q : Bool) (a b c d e : Nat) : SZ S0 q [iN a, iP b, iN c, iN d, iN e] = true := by cases q <;> kernel_rfl
theorem sz5_NNPPP (S0 : Store) (q : Bool) (a b c d e : Nat) : SZ S0 q [iN a, iN b, iP c, iP d, iP e] = true := by cases q <;> kernel_rfl
theorem sz5_NNPPN (S0 : Store) (q : Bool) (a b c d e : Nat) : SZ S0 q [iN a, iN b, iP c, iP d, iN e] = true := by cases q <;> kernel_rfl
theorem sz5_NNPNP (S0 : Store) (q : Bool) (a b c d e : Nat) : SZ S0 q [iN a, iN b, iP c, iN d, iP e] = true := by cases q <;> kernel_rfl
theorem sz5_NNPNN (S0 : Store) (q : Bool) (a b c d e : Nat) : SZ S0 q [iN a, iN b, iP c, iN d, iN e] = true := by cases q <;> kernel_rfl
theorem sz5_NNNPP (S0 : Store) (q : Bool) (a b c d e : Nat) : SZ S0 q [iN a, iN b, iN c, iP d, iP e] = true := by cases q <;> kernel_rfl
theorem sz5_NNNPN (S0 : Store) (q : Bool) (a b c d e : Nat) : SZ S0 q [iN a, iN b, iN c, iP d, iN e] = true := by cases q <;> kernel_rfl
theorem sz5_NNNNP (S0 : Store) (q : Bool) (a b c d e : Nat) : SZ S0 q [iN a, iN b, iN c, iN d, iP e] = true := by cases q <;> kernel_rfl
theorem sz5_NNNNN (S0 : Store) (q : Bool) (a b c d e : Nat) : SZ S0 q [iN a, iN b, iN c, iN d, iN e] = true := by cases q <;> kernel_rfl
theorem sz6_PPPPPP (S0 : Store) (q : Bool) (a b c d e f : Nat) : SZ S0 q [iP a, iP b, iP c, iP d, iP e, iP f] = true := by cases q <;> kernel_rfl
theorem sz6_PPPPPN (S0 : Store) (q : Bool) (a b c d e f : Nat) : SZ S0 q [iP a, iP b, iP c, iP d, iP e, iN f] = true := by cases q <;> kernel_rfl
theorem sz6_PPPPNP (S0 : Store) (q : Bool) (a b c d e f : Nat) : SZ S0 q [iP a, iP b, iP c, iP d, iN e, iP f] = true := by cases q <;> kernel_rfl
theorem sz6_PPPPNN (S0 : Store) (q : Bool) (a b c d e f : Nat) : SZ S0 q [iP a, iP b, iP c, iP d, iN e, iN f] = true := by cases q <;> kernel_rfl
theorem sz6_PPPNPP (S0 : Store) (q : Bool) (a b c d e f : Nat) : SZ S0 q [iP a, iP b, iP c, iN d, iP e, iP f] = true := by cases q <;> kernel_rfl
theorem sz6_PPPNPN (S0 : Store) (q : Bool) (a b c d e f : Nat) : SZ S0 q [iP a, iP b, iP c, iN d, iP e, iN f] = true := by cases q <;> kernel_rfl
theorem sz6_PPPNNP (S0 : Store) (q : Bool) (a b c d e f : Nat) : SZ S0 q [iP a, iP b, iP c, iN d, iN e, iP f] = true := by cases q <;> kernel_rfl
theorem sz6_PPPNNN (S0 : Store) (q : Bool) (a b c d e f : Nat) : SZ S0 q [iP a, iP b, iP c, iN d, iN e, iN f] = true := by cases q <;> kernel_rfl
theorem sz6_PPNPPP (S0 : Store) (q : Bool) (a b c d e f : Nat) : SZ S0 q [iP a, iP b, iN c, iP d, iP e, iP f] = true := by cases q <;> kernel_rfl
theorem sz6_PPNPPN (S0 : Store) (q : Bool) (a b c d e f : Nat) : SZ S0 q [iP a, iP b, iN c, iP d, iP e, iN f] = true := by cases q <;> kernel_rfl
theorem sz6_PPNPNP (S0 : Store) (q : Bool) (a b c d e f : Nat) : SZ S0 q [iP a, iP b, iN c, iP d, iN e, iP f] = true := by cases q <;> kernel_rfl
theorem sz6_PPNPNN (S0 : Store) (q : Bool) (a b c d e f : Nat) : SZ S0 q [iP a, iP b, iN c, iP d, iN e, iN f] = true := by cases q <;> kernel_rfl
theorem sz6_PPNNPP (S0 : Store) (q : Bool) (a b c d e f : Nat) : SZ S0 q [iP a, iP b, iN c, iN d, iP e, iP f] = true := by cases q <;> kernel_rfl
theorem sz6_PPNNPN (S0 : Store) (q : Bool) (a b c d e f : Nat) : SZ S0 q [iP a, iP b, iN c, iN d, iP e, iN f] = true := by cases q <;> kernel_rfl
theorem sz6_PPNNNP (S0 : Store) (q : Bool) (a b c d e f : Nat) : SZ S0 q [iP a, iP b, iN c, iN d, iN e, iP f] = true := by cases q <;> kernel_rfl
theorem sz6_PPNNNN (S0 : Store) (q : Bool) (a b c d e f : Nat) : SZ S0 q [iP a, iP b, iN c, iN d, iN e, iN f] = true := by cases q <;> kernel_rfl
theorem sz6_PNPPPP (S0 : Store) (q : Bool) (a b c d e f : Nat) : SZ S0 q [iP a, iN b, iP c, iP d, iP e, iP f] = true := by cases q <;> kernel_rfl
theorem sz6_PNPPPN (S0 : Store) (q : Bool) (a b c d e f : Nat) : SZ S0 q [iP a, iN b, iP c, iP d, iP e, iN f] = true := by cases q <;> kernel_rfl
theorem sz6_PNPPNP (S0 : Store) (q : Bool) (a b c d e f : Nat) : SZ S0 q [iP a, iN b, iP c, iP d, iN e, iP f] = true := by cases q <;> kernel_rfl
theorem sz6_PNPPNN (S0 : Store) (q : Bool) (a b c d e f : Nat) : SZ S0 q [iP a, iN b, iP c, iP d, iN e, iN f] = true := by cases q <;> kernel_rfl
theorem sz6_PNPNPP (S0 : Store) (q : Bool) (a b c d e f : Nat) : SZ S0 q [iP a, iN b, iP c, iN d, iP e, iP f] = true := by cases q <;> kernel_rfl
theorem sz6_PNPNPN (S0 : Store) (q : Bool) (a b c d e f : Nat) : SZ S0 q [iP a, iN b, iP c, iN d, iP e, iN f] = true := by cases q <;> kernel_rfl
theorem sz6_PNPNNP (S0 : Store) (q : Bool) (a b c d e f : Nat) : SZ S0 q [iP a, iN b, iP c, iN d, iN e, iP f] = true := by cases q <;> kernel_rfl
theorem sz6_PNPNNN (S0 : Store) (q : Bool) (a b c d e f : Nat) : SZ S0 q [iP a, iN b, iP c, iN d, iN e, iN f] = true := by cases q <;> kernel_rfl
theorem sz6_PNNPPP (S0 : Store) (q : Bool) (a b c d e f : Nat) : SZ S0 q [iP a, iN b, iN c, iP d, iP e, iP f] = true := by cases q <;> kernel_rfl
theorem sz6_PNNPPN (S0 : Store) (q : Bool) (a b c d e f : Nat) : SZ S0 q [iP a, iN b, iN c, iP d, iP e, iN f] = true := by cases q <;> kernel_rfl
theorem sz6_PNNPNP (S0 : Store) (q : Bool) (a b c d e f : Nat) : SZ S0 q [iP a, iN b, iN c, iP d, iN e, iP f] = true := by cases q <;> kernel_rfl
theorem sz6_PNNPNN (S0 : Store) (q : Bool) (a b c d e f : Nat) : SZ S0 q [iP a, iN b, iN c, iP d, iN e, iN f] = true := by cases q <;> kernel_rfl
theorem sz6_PNNNPP (S0 : Store) (q : Bool) (a b c d e f : Nat) : SZ S0 q [iP a, iN b, iN c, iN d, iP e, iP f] = true := by cases q <;> kernel_rfl
theorem sz6_PNNNPN (S0 : Store) (q : Bool) (a b c d e f : Nat) : SZ S0 q [iP a, iN b, iN c, iN d, iP e, iN f] = true := by cases q <;> kernel_rfl
theorem sz6_PNNNNP (S0 : Store) (q : Bool) (a b c d e f : Nat) : SZ S0 q [iP a, iN b, iN c, iN d, iN e, iP f] = true := by cases q <;> kernel_rfl
theorem sz6_PNNNNN (S0 : Store) (q : Bool) (a b c d e f : Nat) : SZ S0 q [iP a, iN b, iN c, iN d, iN e, iN f] = true := by cases q <;> kernel_rfl
theorem sz6_NPPPPP (S0 : Store) (q : Bool) (a b c d e f : Nat) : SZ S0 q [iN a, iP b, iP c, iP d, iP e, iP f] = true := by cases q <;> kernel_rfl
theorem sz6_NPPPPN (S0 : Store) (q : Bool) (a b c d e f : Nat) : SZ S0 q [iN a, iP b, iP c, iP d, iP e, iN f] = true := by cases q <;> kernel_rfl
theorem sz6_NPPPNP (S0 : Store) (q : Bool) (a b c d e f : Nat) : SZ S0 q [iN a, iP b, iP c, iP d, iN e, iP f] = true := by cases q <;> kernel_rfl
theorem sz6_NPPPNN (S0 : Store) (q : Bool) (a b c d e f : Nat) : SZ S0 q [iN a, iP b, iP c, iP d, iN e, iN f] = true := by cases q <;> kernel_rfl
theorem sz6_NPPNPP (S0 : Store) (q : Bool) (a b c d e f : Nat) : SZ S0 q [iN a, iP b, iP c, iN d, iP e, iP f] = true := by cases q <;> kernel_rfl
theorem sz6_NPPNPN (S0 : Store) (q : Bool) (a b c d e f : Nat) : SZ S0 q [iN a, iP b, iP c, iN d, iP e, iN f] = true := by cases q <;> kernel_rfl
theorem sz6_NPPNNP (S0 : Store) (q : Bool) (a b c d e f : Nat) : SZ S0 q [iN a, iP b, iP c, iN d, iN e, iP f] = true := by cases q <;> kernel_rfl
theorem sz6_NPPNNN (S0 : Store) (q : Bool) (a b c d e f : Nat) : SZ S0 q [iN a, iP b, iP c, iN d, iN e, iN f] = true := by cases q <;> kernel_rfl
theorem sz6_NPNPPP (S0 : Store) (q : Bool) (a b c d e f : Nat) : SZ S0 q [iN a, iP b, iN c, iP d, iP e, iP f] = true := by cases q <;> kernel_rfl
theorem sz6_NPNPPN (S0 : Store) (q : Bool) (a b c d e f : Nat) : SZ S0 q [iN a, iP b, iN c, iP d, iP e, iN f] = true := by cases q <;> kernel_rfl
theorem sz6_NPNPNP (S0 : Store) (q : Bool) (a b c d e f : Nat) : SZ S0 q [iN a, iP b, iN c, iP d, iN e, iP f] = true := by cases q <;> kernel_rfl
theorem sz6_NPNPNN (S0 : Store) (q : Bool) (a b c d e f : Nat) : SZ S0 q [iN a, iP b, iN c, iP d, iN e, iN f] = true := by cases q <;> kernel_rfl
theorem sz6_NPNNPP (S0 : Store) (q : Bool) (a b c d e f : Nat) : SZ S0 q [iN a, iP b, iN c, iN d, iP e, iP f] = true := by cases q <;> kernel_rfl
theorem sz6_NPNNPN (S0 : Store) (q : Bool) (a b c d e f : Nat) : SZ S0 q [iN a, iP b, iN c, iN d, iP e, iN f] = true := by cases q <;> kernel_rfl
theorem sz6_NPNNNP (S0 : Store) (q : Bool) (a b c d e f : Nat) : SZ S0 q [iN a, iP b, iN c, iN d, iN e, iP f] = true := by cases q <;> kernel_rfl
theorem sz6_NPNNNN (S0 : Store) (q : Bool) (a b c d e f : Nat) : SZ S0 q [iN a, iP b, iN c, iN d, iN e, iN f] = true := by cases q <;> kernel_rfl
theorem sz6_NNPPPP (S0 : Store) (q : Bool) (a b c d e f : Nat) : SZ S0 q [iN a, iN b, iP c, iP d, iP e, iP f] = true := by cases q <;> kernel_rfl
theorem sz6_NNPPPN (S0 : Store) (q : Bool) (a b c d e f : Nat) : SZ S0 q [iN a, iN b, iP c, iP d, iP e, iN f] = true := by cases q <;> kernel_rfl
theorem sz6_NNPPNP (S0 : Store) (q : Bool) (a b c d e f : Nat) : SZ S0 q [iN a, iN b, iP c, iP d, iN e, iP f] = true := by cases q <;> kernel_rfl
theorem sz6_NNPPNN (S0 : Store) (q : Bool) (a b c d e f : Nat) : SZ S0 q [iN a, iN b, iP c, iP d, iN e, iN f] = true := by cases q <;> kernel_rfl
theorem sz6_NNPNPP (S0 : Store) (q : Bool) (a b c d e f : Nat) : SZ S0 q [iN a, iN b, iP c, iN d, iP e, iP f] = true := by cases q <;> kernel_rfl
theorem sz6_NNPNPN (S0 : Store) (q : Bool) (a b c d e f : Nat) : SZ S0 q [iN a, iN b, iP c, iN d, iP e, iN f] = true := by cases q <;> kernel_rfl
theorem sz6_NNPNNP (S0 : Store) (q : Bool) (a b c d e f : Nat) : SZ S0 q [iN a, iN b, iP c, iN d, iN e, iP f] = true := by cases q <;> kernel_rfl
theorem sz6_NNPNNN (S0 : Store) (q : Bool) (a b c d e f : Nat) : SZ S0 q [iN a, iN b, iP c, iN d, iN e, iN f] = true := by cases q <;> kernel_rfl
theorem sz6_NNNPPP (S0 : Store) (q : Bool) (a b c d e f : Nat) : SZ S0 q [iN a, iN b, iN c, iP d, iP e, iP f] = true := by cases q <;> kernel_rfl
theorem sz6_NNNPPN (S0 : Store) (q : Bool) (a b c d e f : Nat) : SZ S0 q [iN a, iN b, iN c, iP d, iP e, iN f] = true := by cases q <;> kernel_rfl
theorem sz6_NNNPNP (S0 : Store) (q : Bool) (a b c d e f : Nat) : SZ S0 q [iN a, iN b, iN c, iP d, iN e, iP f] = true := by cases q <;> kernel_rfl
theorem sz6_NNNPNN (S0 : Store) (q : Bool) (a b c d e f : Nat) : SZ S0 q [iN a, iN b, iN c, iP d, iN e, iN f] = true := by cases q <;> kernel_rfl
theorem sz6_NNNNPP (S0 : Store) (q : Bool) (a b c d e f : Nat) : SZ S0 q [iN a, iN b, iN c, iN d, iP e, iP f] = true := by cases q <;> kernel_rfl
theorem sz6_NNNNPN (S0 : Store) (q : Bool) (a b c d e f : Nat) : SZ S0 q [iN a, iN b, iN c, iN d, iP e, iN f] = true := by cases q <;> kernel_rfl
theorem sz6_NNNNNP (S0 : Store) (q : Bool) (a b c d e f : Nat) : SZ S0 q [iN a, iN b, iN c, iN d, iN e, iP f] = true := by cases q <;> kernel_rfl
theorem sz6_NNNNNN (S0 : Store) (q : Bool) (a b c d e f : Nat) : SZ S0 q [iN a, iN b, iN c, iN d, iN e, iN f] = true := by cases q <;> kernel_rfl
theorem sz7_PPPPPP (S0 : Store) (q : Bool) (a b c d e f : Nat) (x : LV) (l : List LV) : SZ S0 q (iP a :: iP b :: iP c :: iP d :: iP e :: iP f :: x :: l) = true := by cases q <;> kernel_rfl
theorem sz7_PPPPPN (S0 : Store) (q : Bool) (a b c d e f : Nat) (x : LV) (l : List LV) : SZ S0 q (iP a :: iP b :: iP c :: iP d :: iP e :: iN f :: x :: l) = true := by cases q <;> kernel_rfl
theorem sz7_PPPPNP (S0 : Store) (q : Bool) (a b c d e f : Nat) (x : LV) (l : List LV) : SZ S0 q (iP a :: iP b :: iP c :: iP d :: iN e :: iP f :: x :: l) = true := by cases q <;> kernel_rfl
theorem sz7_PPPPNN (S0 : Store) (q : Bool) (a b c d e f : Nat) (x : LV) (l : List LV) : SZ S0 q (iP a :: iP b :: iP c :: iP d :: iN e :: iN f :: x :: l) = true := by cases q <;> kernel_rfl
theorem sz7_PPPNPP (S0 : Store) (q : Bool) (a b c d e f : Nat) (x : LV) (l : List LV) : SZ S0 q (iP a :: iP b :: iP c :: iN d :: iP e :: iP f :: x :: l) = true := by cases q <;> kernel_rfl
theorem sz7_PPPNPN (S0 : Store) (q : Bool) (a b c d e f : Nat) (x : LV) (l : List LV) : SZ S0 q (iP a :: iP b :: iP c :: iN d :: iP e :: iN f :: x :: l) = true := by cases q <;> kernel_rfl
theorem sz7_PPPNNP (S0 : Store) (q : Bool) (a b c d e f : Nat) (x : LV) (l : List LV) : SZ S0 q (iP a :: iP b :: iP c :: iN d :: iN e :: iP f :: x :: l) = true := by cases q <;> kernel_rfl
theorem sz7_PPPNNN (S0 : Store) (q : Bool) (a b c d e f : Nat) (x : LV) (l : List LV) : SZ S0 q (iP a :: iP b :: iP c :: iN d :: iN e :: iN f :: x :: l) = true := by cases q <;> kernel_rfl
theorem sz7_PPNPPP (S0 : Store) (q : Bool) (a b c d e f : Nat) (x : LV) (l : List LV) : SZ S0 q (iP a :: iP b :: iN c :: iP d :: iP e :: iP f :: x :: l) = true := by cases q <;> kernel_rfl
theorem sz7_PPNPPN (S0 : Store) (q : Bool) (a b c d e f : Nat) (x : LV) (l : List LV) : SZ S0 q (iP a :: iP b :: iN c :: iP d :: iP e :: iN f :: x :: l) = true := by cases q <;> kernel_rfl
theorem sz7_PPNPNP (S0 : Store) (q : Bool) (a b c d e f : Nat) (x : LV) (l : List LV) : SZ S0 q (iP a :: iP b :: iN c :: iP d :: iN e :: iP f :: x :: l) = true := by cases q <;> kernel_rfl
theorem sz7_PPNPNN (S0 : Store) (q : Bool) (a b c d e f : Nat) (x : LV) (l : List LV) : SZ S0 q (iP a :: iP b :: iN c :: iP d :: iN e :: iN f :: x :: l) = true := by cases q <;> kernel_rfl
theorem sz7_PPNNPP (S0 : Store) (q : Bool) (a b c d e f : Nat) (x : LV) (l : List LV) : SZ S0 q (iP a :: iP b :: iN c :: iN d :: iP e :: iP f :: x :: l) = true := by cases q <;> kernel_rfl
theorem sz7_PPNNPN (S0 : Store) (q : Bool) (a b c d e f : Nat) (x : LV) (l : List LV) : SZ S0 q (iP a :: iP b :: iN c :: iN d :: iP e :: iN f :: x :: l) = true := by cases q <;> kernel_rfl
theorem sz7_PPNNNP (S0 : Store) (q : Bool) (a b c d e f : Nat) (x : LV) (l : List LV) : SZ S0 q (iP a :: iP b :: iN c :: iN d :: iN e :: iP f :: x :: l) = true := by cases q <;> kernel_rfl
theorem sz7_PPNNNN (S0 : Store) (q : Bool) (a b c d e f : Nat) (x : LV) (l : List LV) : SZ S0 q (iP a :: iP b :: iN c :: iN d :: iN e :: iN f :: x :: l) = true := by cases q <;> kernel_rfl
theorem sz7_PNPPPP (S0 : Store) (q : Bool) (a b c d e f : Nat) (x : LV) (l : List LV) : SZ S0 q (iP a :: iN b :: iP c :: iP d :: iP e :: iP f :: x :: l) = true := by cases q <;> kernel_rfl
theorem sz7_PNPPPN (S0 : Store) (q : Bool) (a b c d e f : Nat) (x : LV) (l : List LV) : SZ S0 q (iP a :: iN b :: iP c :: iP d :: iP e :: iN f :: x :: l) = true := by cases q <;> kernel_rfl
theorem sz7_PNPPNP (S0 : Store) (q : Bool) (a b c d e f : Nat) (x : LV) (l : List LV) : SZ S0 q (iP a :: iN b :: iP c :: iP d :: iN e :: iP f :: x :: l) = true := by cases q <;> kernel_rfl
theorem sz7_PNPPNN (S0 : Store) (q : Bool) (a b c d e f : Nat) (x : LV) (l : List LV) : SZ S0 q (iP a :: iN b :: iP c :: iP d :: iN e :: iN f :: x :: l) = true := by cases q <;> kernel_rfl
theorem sz7_PNPNPP (S0 : Store) (q : Bool) (a b c d e f : Nat) (x : LV) (l : List LV) : SZ S0 q (iP a :: iN b :: iP c :: iN d :: iP e :: iP f :: x :: l) = true := by cases q <;> kernel_rfl
theorem sz7_PNPNPN (S0 : Store) (q : Bool) (a b c d e f : Nat) (x : LV) (l : List LV) : SZ S0 q (iP a :: iN b :: iP c :: iN d :: iP e :: iN f :: x :: l) = true := by cases q <;> kernel_rfl
theorem sz7_PNPNNP (S0 : Store) (q : Bool) (a b c d e f : Nat) (x : LV) (l : List LV) : SZ S0 q (iP a :: iN b :: iP c :: iN d :: iN e :: iP f :: x :: l) = true := by cases q <;> kernel_rfl
theorem sz7_PNPNNN (S0 : Store) (q : Bool) (a b c d e f : Nat) (x : LV) (l : List LV) : SZ S0 q (iP a :: iN b :: iP c :: iN d :: iN e :: iN f :: x :: l) = true := by cases q <;> kernel_rfl
theorem sz7_PNNPPP (S0 : Store) (q : Bool) (a b c d e f : Nat) (x : LV) (l : List LV) : SZ S0 q (iP a :: iN b :: iN c :: iP d :: iP e :: iP f :: x :: l) = true := by cases q <;> kernel_rfl
theorem sz7_PNNPPN (S0 : Store) (q : Bool) (a b c d e f : Nat) (x : LV) (l : List LV) : SZ S0 q (iP a :: iN b :: iN c :: iP d :: iP e :: iN f :: x :: l) = true := by cases q <;> kernel_rfl
theorem sz7_PNNPNP (S0 : Store) (q : Bool) (a b c d e f : Nat) (x : LV) (l : List LV) : SZ S0 q (iP a :: iN b :: iN c :: iP d :: iN e :: iP f :: x :: l) = true := by cases q <;> kernel_rfl
theorem sz7_PNNPNN (S0 : Store) (q : Bool) (a b c d e f : Nat) (x : LV) (l : List LV) : SZ S0 q (iP a :: iN b :: iN c :: iP d :: iN e :: iN f :: x :: l) = true := by cases q <;> kernel_rfl
theorem sz7_PNNNPP (S0 : Store) (q : Bool) (a b c d e f : Nat) (x : LV) (l : List LV) : SZ S0 q (iP a :: iN b :: iN c :: iN d :: iP e :: iP f :: x :: l) = true := by cases q <;> kernel_rfl
theorem sz7_PNNNPN (S0 : Store) (q : Bool) (a b c d e f : Nat) (x : LV) (l : List LV) : SZ S0 q (iP a :: iN b :: iN c :: iN d :: iP e :: iN f :: x :: l) = true := by cases q <;> kernel_rfl
theorem sz7_PNNNNP (S0 : Store) (q : Bool) (a b c d e f : Nat) (x : LV) (l : List LV) : SZ S0 q (iP a :: iN b :: iN c :: iN d :: iN e :: iP f :: x :: l) = true := by cases q <;> kernel_rfl
theorem sz7_PNNNNN (S0 : Store) (q : Bool) (a b c d e f : Nat) (x : LV) (l : List LV) : SZ S0 q (iP a :: iN b :: iN c :: iN d :: iN e :: iN f :: x :: l) = true := by cases q <;> kernel_rfl
theorem sz7_NPPPPP (S0 : Store) (q : Bool) (a b c d e f : Nat) (x : LV) (l : List LV) : SZ S0 q (iN a :: iP b :: iP c :: iP d :: iP e :: iP f :: x :: l) = true := by cases q <;> kernel_rfl
theorem sz7_NPPPPN (S0 : Store) (q : Bool) (a b c d e f : Nat) (x : LV) (l : List LV) : SZ S0 q (iN a :: iP b :: iP c :: iP d :: iP e :: iN f :: x :: l) = true := by cases q <;> kernel_rfl
theorem sz7_NPPPNP (S0 : Store) (q : Bool) (a b c d e f : Nat) (x : LV) (l : List LV) : SZ S0 q (iN a :: iP b :: iP c :: iP d :: iN e :: iP f :: x :: l) = true := by cases q <;> kernel_rfl
theorem sz7_NPPPNN (S0 : Store) (q : Bool) (a b c d e f : Nat) (x : LV) (l : List LV) : SZ S0 q (iN a :: iP b :: iP c :: iP d :: iN e :: iN f :: x :: l) = true := by cases q <;> kernel_rfl
theorem sz7_NPPNPP (S0 : Store) (q : Bool) (a b c d e f : Nat) (x : LV) (l : List LV) : SZ S0 q (iN a :: iP b :: iP c :: iN d :: iP e :: iP f :: x :: l) = true := by cases q <;> kernel_rfl
theorem sz7_NPPNPN (S0 : Store) (q : Bool) (a b c d e f : Nat) (x : LV) (l : List LV) : SZ S0 q (iN a :: iP b :: iP c :: iN d :: iP e :: iN f :: x :: l) = true := by cases q <;> kernel_rfl
theorem sz7_NPPNNP (S0 : Store) (q : Bool) (a b c d e f : Nat) (x : LV) (l : List LV) : SZ S0 q (iN a :: iP b :: iP c :: iN d :: iN e :: iP f :: x :: l) = true := by cases q <;> kernel_rfl
theorem sz7_NPPNNN (S0 : Store) (q : Bool) (a b c d e f : Nat) (x : LV) (l : List LV) : SZ S0 q (iN a :: iP b :: iP c :: iN d :: iN e :: iN f :: x :: l) = true := by cases q <;> kernel_rfl
theorem sz7_NPNPPP (S0 : Store) (q : Bool) (a b c d e f : Nat) (x : LV) (l : List LV) : SZ S0 q (iN a :: iP b :: iN c :: iP d :: iP e :: iP f :: x :: l) = true := by cases q <;> kernel_rfl
theorem sz7_NPNPPN (S0 : Store) (q : Bool) (a b c d e f : Nat) (x : LV) (l : List LV) : SZ S0 q (iN a :: iP b :: iN c :: iP d :: iP e :: iN f :: x :: l) = true := by cases q <;> kernel_rfl
theorem sz7_NPNPNP (S0 : Store) (q : Bool) (a b c d e f : Nat) (x : LV) (l : List LV) : SZ S0 q (iN a :: iP b :: iN c :: iP d :: iN e :: iP f :: x :: l) = true := by cases q <;> kernel_rfl
theorem sz7_NPNPNN (S0 : Store) (q : Bool) (a b c d e f : Nat) (x : LV) (l : List LV) : SZ S0 q (iN a :: iP b :: iN c :: iP d :: iN e :: iN f :: x :: l) = true := by cases q <;> kernel_rfl
theorem sz7_NPNNPP (S0 : Store) (q : Bool) (a b c d e f : Nat) (x : LV) (l : List LV) : SZ S0 q (iN a :: iP b :: iN c :: iN d :: iP e :: iP f :: x :: l) = true := by cases q <;> kernel_rfl
theorem sz7_NPNNPN (S0 : Store) (q : Bool) (a b c d e f : Nat) (x : LV) (l : List LV) : SZ S0 q (iN a :: iP b :: iN c :: iN d :: iP e :: iN f :: x :: l) = true := by cases q <;> kernel_rfl
theorem sz7_NPNNNP (S0 : Store) (q : Bool) (a b c d e f : Nat) (x : LV) (l : List LV) : SZ S0 q (iN a :: iP b :: iN c :: iN d :: iN e :: iP f :: x :: l) = true := by cases q <;> kernel_rfl
theorem sz7_NPNNNN (S0 : Store) (q : Bool) (a b c d e f : Nat) (x : LV) (l : List LV) : SZ S0 q (iN a :: iP b :: iN c :: iN d :: iN e :: iN f :: x :: l) = true := by cases q <;> kernel_rfl
theorem sz7_NNPPPP (S0 : Store) (q : Bool) (a b c d e f : Nat) (x : LV) (l : List LV) : SZ S0 q (iN a :: iN b :: iP c :: iP d :: iP e :: iP f :: x :: l) = true := by cases q <;> kernel_rfl
theorem sz7_NNPPPN (S0 : Store) (q : Bool) (a b c d e f : Nat) (x : LV) (l : List LV) : SZ S0 q (iN a :: iN b :: iP c :: iP d :: iP e :: iN f :: x :: l) = true := by cases q <;> kernel_rfl
theorem sz7_NNPPNP (S0 : Store) (q : Bool) (a b c d e f : Nat) (x : LV) (l : List LV) : SZ S0 q (iN a :: iN b :: iP c :: iP d :: iN e :: iP f :: x :: l) = true := by cases q <;> kernel_rfl
theorem sz7_NNPPNN (S0 : Store) (q : Bool) (a b c d e f : Nat) (x : LV) (l : List LV) : SZ S0 q (iN a :: iN b :: iP c :: iP d :: iN e :: iN f :: x :: l) = true := by cases q <;> kernel_rfl
theorem sz7_NNPNPP (S0 : Store) (q : Bool) (a b c d e f : Nat) (x : LV) (l : List LV) : SZ S0 q (iN a :: iN b :: iP c :: iN d :: iP e :: iP f :: x :: l) = true := by cases q <;> kernel_rfl
theorem sz7_NNPNPN (S0 : Store) (q : Bool) (a b c d e f : Nat) (x : LV) (l : List LV) : SZ S0 q (iN a :: iN b :: iP c :: iN d :: iP e :: iN f :: x :: l) = true := by cases q <;> kernel_rfl
theorem sz7_NNPNNP (S0 : Store) (q : Bool) (a b c d e f : Nat) (x : LV) (l : List LV) : SZ S0 q (iN a :: iN b :: iP c :: iN d :: iN e :: iP f :: x :: l) = true := by cases q <;> kernel_rfl
theorem sz7_NNPNNN (S0 : Store) (q : Bool) (a b c d e f : Nat) (x : LV) (l : List LV) : SZ S0 q (iN a :: iN b :: iP c :: iN d :: iN e :: iN f :: x :: l) = true := by cases q <;> kernel_rfl
theorem sz7_NNNPPP (S0 : Store) (q : Bool) (a b c d e f : Nat) (x : LV) (l : List LV) : SZ S0 q (iN a :: iN b :: iN c :: iP d :: iP e :: iP f :: x :: l) = true := by cases q <;> kernel_rfl
theorem sz7_NNNPPN (S0 : Store) (q : Bool) (a b c d e f : Nat) (x : LV) (l : List LV) : SZ S0 q (iN a :: iN b :: iN c :: iP d :: iP e :: iN f :: x :: l) = true := by cases q <;> kernel_rfl
theorem sz7_NNNPNP (S0 : Store) (q : Bool) (a b c d e f : Nat) (x : LV) (l : List LV) : SZ S0 q (iN a :: iN b :: iN c :: iP d :: iN e :: iP f :: x :: l) = true := by cases q <;> kernel_rfl
theorem sz7_NNNPNN (S0 : Store) (q : Bool) (a b c d e f : Nat) (x : LV) (l : List LV) : SZ S0 q (iN a :: iN b :: iN c :: iP d :: iN e :: iN f :: x :: l) = true := by cases q <;> kernel_rfl
theorem sz7_NNNNPP (S0 : Store) (q : Bool) (a b c d e f : Nat) (x : LV) (l : List LV) : SZ S0 q (iN a :: iN b :: iN c :: iN d :: iP e :: iP f :: x :: l) = true := by cases q <;> kernel_rfl
theorem sz7_NNNNPN (S0 : Store) (q : Bool) (a b c d e f : Nat) (x : LV) (l : List LV) : SZ S0 q (iN a :: iN b :: iN c :: iN d :: iP e :: iN f :: x :: l) = true := by cases q <;> kernel_rfl
theorem sz7_NNNNNP (S0 : Store) (q : Bool) (a b c d e f : Nat) (x : LV) (l : List LV) : SZ S0 q (iN a :: iN b :: iN c :: iN d :: iN e :: iP f :: x :: l) = true := by cases q <;> kernel_rfl
theorem sz7_NNNNNN (S0 : Store) (q : Bool) (a b c d e f : Nat) (x : LV) (l : List LV) : SZ S0 q (iN a :: iN b :: iN c :: iN d :: iN e :: iN f :: x :: l) = true := by cases q <;> kernel_rfl
theorem szI0 (S0 : Store) (q : Bool) : SZ S0 q [] = true := sz0_ S0 q
theorem szI1 (S0 : Store) (q : Bool) : ∀ (a : Int), SZ S0 q [.int .i64 a] = true
  | .ofNat a => sz1_P S0 q a
  | .negSucc a => sz1_N S0 q a
theorem szI2 (S0 : Store) (q : Bool) : ∀ (a b : Int), SZ S0 q [.int .i64 a, .int .i64 b] = true
  | .ofNat a, .ofNat b => sz2_PP S0 q a b
  | .ofNat a, .negSucc b => sz2_PN S0 q a b
  | .negSucc a, .ofNat b => sz2_NP S0 q a b
  | .negSucc a, .negSucc b => sz2_NN S0 q a b
theorem szI3 (S0 : Store) (q : Bool) : ∀ (a b c : Int), SZ S0 q [.int .i64 a, .int .i64 b, .int .i64 c] = true
  | .ofNat a, .ofNat b, .ofNat c => sz3_PPP S0 q a b c
  | .ofNat a, .ofNat b, .negSucc c => sz3_PPN S0 q a b c
  | .ofNat a, .negSucc b, .ofNat c => sz3_PNP S0 q a b c
  | .ofNat a, .negSucc b, .negSucc c => sz3_PNN S0 q a b c
  | .negSucc a, .ofNat b, .ofNat c => sz3_NPP S0 q a b c
  | .negSucc a, .ofNat b, .negSucc c => sz3_NPN S0 q a b c
  | .negSucc a, .negSucc b, .ofNat c => sz3_NNP S0 q a b c
  | .negSucc a, .negSucc b, .negSucc c => sz3_NNN S0 q a b c
theorem szI4 (S0 : Store) (q : Bool) : ∀ (a b c d : Int), SZ S0 q [.int .i64 a, .int .i64 b, .int .i64 c, .int .i64 d] = true
  | .ofNat a, .ofNat b, .ofNat c, .ofNat d => sz4_PPPP S0 q a b c d
  | .ofNat a, .ofNat b, .ofNat c, .negSucc d => sz4_PPPN S0 q a b c d
  | .ofNat a, .ofNat b, .negSucc c, .ofNat d => sz4_PPNP S0 q a b c d
  | .ofNat a, .ofNat b, .negSucc c, .negSucc d => sz4_PPNN S0 q a b c d
  | .ofNat a, .negSucc b, .ofNat c, .ofNat d => sz4_PNPP S0 q a b c d
  | .ofNat a, .negSucc b, .ofNat c, .negSucc d => sz4_PNPN S0 q a b c d
  | .ofNat a, .negSucc b, .negSucc c, .ofNat d => sz4_PNNP S0 q a b c d
  | .ofNat a, .negSucc b, .negSucc c, .negSucc d => sz4_PNNN S0 q a b c d
  | .negSucc a, .ofNat b, .ofNat c, .ofNat d => sz4_NPPP S0 q a b c d
  | .negSucc a, .ofNat b, .ofNat c, .negSucc d => sz4_NPPN S0 q a b c d
  | .negSucc a, .ofNat b, .negSucc c, .ofNat d => sz4_NPNP S0 q a b c d
  | .negSucc a, .ofNat b, .negSucc c, .negSucc d => sz4_NPNN S0 q a b c d
  | .negSucc a, .negSucc b, .ofNat c, .ofNat d => sz4_NNPP S0 q a b c d
  | .negSucc a, .negSucc b, .ofNat c, .negSucc d => sz4_NNPN S0 q a b c d
  | .negSucc a, .negSucc b, .negSucc c, .ofNat d => sz4_NNNP S0 q a b c d
  | .negSucc a, .negSucc b, .negSucc c, .negSucc d => sz4_NNNN S0 q a b c d
theorem szI5 (S0 : Store) (q : Bool) : ∀ (a b c d e : Int), SZ S0 q [.int .i64 a, .int .i64 b, .int .i64 c, .int .i64 d, .int .i64 e] = true
  | .ofNat a, .ofNat b, .ofNat c, .ofNat d, .ofNat e => sz5_PPPPP S0 q a b c d e
  | .ofNat a, .ofNat b, .ofNat c, .ofNat d, .negSucc e => sz5_PPPPN S0 q a b c d e
  | .ofNat a, .ofNat b, .ofNat c, .negSucc d, .ofNat e => sz5_PPPNP S0 q a b c d e
  | .ofNat a, .ofNat b, .ofNat c, .negSucc d, .negSucc e => sz5_PPPNN S0 q a b c d e
  | .ofNat a, .ofNat b, .negSucc c, .ofNat d, .ofNat e => sz5_PPNPP S0 q a b c d e
  | .ofNat a, .ofNat b, .negSucc c, .ofNat d, .negSucc e => sz5_PPNPN S0 q a b c d e
  | .ofNat a, .ofNat b, .negSucc c, .negSucc d, .ofNat e => sz5_PPNNP S0 q a b c d e
  | .ofNat a, .ofNat b, .negSucc c, .negSucc d, .negSucc e => sz5_PPNNN S0 q a b c d e
  | .ofNat a, .negSucc b, .ofNat c, .ofNat d, .ofNat e => sz5_PNPPP S0 q a b c d e
  | .ofNat a, .negSucc b, .ofNat c, .ofNat d, .negSucc e => sz5_PNPPN S0 q a b c d e
  | .ofNat a, .negSucc b, .ofNat c, .negSucc d, .ofNat e => sz5_PNPNP S0 q a b c d e
  | .ofNat a, .negSucc b, .ofNat c, .negSucc d, .negSucc e => sz5_PNPNN S0 q a b c d e
  | .ofNat a, .negSucc b, .negSucc c, .ofNat d, .ofNat e => sz5_PNNPP S0 q a b c d e
  | .ofNat a, .negSucc b, .negSucc c, .ofNat d, .negSucc e => sz5_PNNPN S0 q a b c d e
  | .ofNat a, .negSucc b, .negSucc c, .negSucc d, .ofNat e => sz5_PNNNP S0 q a b c d e
  | .ofNat a, .negSucc b, .negSucc c, .negSucc d, .negSucc e => sz5_PNNNN S0 q a b c d e
  | .negSucc a, .ofNat b, .ofNat c, .ofNat d, .ofNat e => sz5_NPPPP S0 q a b c d e
  | .negSucc a, .ofNat b, .ofNat c, .ofNat d, .negSucc e => sz5_NPPPN S0 q a b c d e
  | .negSucc a, .ofNat b, .ofNat c, .negSucc d, .ofNat e => sz5_NPPNP S0 q a b c d e
  | .negSucc a, .ofNat b, .ofNat c, .negSucc d, .negSucc e => sz5_NPPNN S0 q a b c d e
  | .negSucc a, .ofNat b, .negSucc c, .ofNat d, .ofNat e => sz5_NPNPP S0 q a b c d e
  | .negSucc a, .ofNat b, .negSucc c, .ofNat d, .negSucc e => sz5_NPNPN S0 q a b c d e
  | .negSucc a, .ofNat b, .negSucc c, .negSucc d, .ofNat e => sz5_NPNNP S0 q a b c d e
  | .negSucc a, .ofNat b, .negSucc c, .negSucc d, .negSucc e => sz5_NPNNN S0 q a b c d e
  | .negSucc a, .negSucc b, .ofNat c, .ofNat d, .ofNat e => sz5_NNPPP S0 q a b c d e
  | .negSucc a, .negSucc b, .ofNat c, .ofNat d, .negSucc e => sz5_NNPPN S0 q a b c d e
  | .negSucc a, .negSucc b, .ofNat c, .negSucc d, .ofNat e => sz5_NNPNP S0 q a b c d e
  | .negSucc a, .negSucc b, .ofNat c, .negSucc d, .negSucc e => sz5_NNPNN S0 q a b c d e
  | .negSucc a, .negSucc b, .negSucc c, .ofNat d, .ofNat e => sz5_NNNPP S0 q a b c d e
  | .negSucc a, .negSucc b, .negSucc c, .ofNat d, .negSucc e => sz5_NNNPN S0 q a b c d e
  | .negSucc a, .negSucc b, .negSucc c, .negSucc d, .ofNat e => sz5_NNNNP S0 q a b c d e
  | .negSucc a, .negSucc b, .negSucc c, .negSucc d, .negSucc e => sz5_NNNNN S0 q a b c d e
theorem szI6 (S0 : Store) (q : Bool) : ∀ (a b c d e f : Int), SZ S0 q [.int .i64 a, .int .i64 b, .int .i64 c, .int .i64 d, .int .i64 e, .int .i64 f] = true
  | .ofNat a, .ofNat b, .ofNat c, .ofNat d, .ofNat e, .ofNat f => sz6_PPPPPP S0 q a b c d e f
  | .ofNat a, .ofNat b, .ofNat c, .ofNat d, .ofNat e, .negSucc f => sz6_PPPPPN S0 q a b c d e f
  | .ofNat a, .ofNat b, .ofNat c, .ofNat d, .negSucc e, .ofNat f => sz6_PPPPNP S0 q a b c d e f
  | .ofNat a, .ofNat b, .ofNat c, .ofNat d, .negSucc e, .negSucc f => sz6_PPPPNN S0 q a b c d e f
  | .ofNat a, .ofNat b, .ofNat c, .negSucc d, .ofNat e, .ofNat f => sz6_PPPNPP S0 q a b c d e f
  | .ofNat a, .ofNat b, .ofNat c, .negSucc d, .ofNat e, .negSucc f => sz6_PPPNPN S0 q a b c d e f
  | .ofNat a, .ofNat b, .ofNat c, .negSucc d, .negSucc e, .ofNat f => sz6_PPPNNP S0 q a b c d e f
  | .ofNat a, .ofNat b, .ofNat c, .negSucc d, .negSucc e, .negSucc f => sz6_PPPNNN S0 q a b c d e f
  | .ofNat a, .ofNat b, .negSucc c, .ofNat d, .ofNat e, .ofNat f => sz6_PPNPPP S0 q a b c d e f
  | .ofNat a, .ofNat b, .negSucc c, .ofNat d, .ofNat e, .negSucc f => sz6_PPNPPN S0 q a b c d e f
  | .ofNat a, .ofNat b, .negSucc c, .ofNat d, .negSucc e, .ofNat f => sz6_PPNPNP S0 q a b c d e f
  | .ofNat a, .ofNat b, .negSucc c, .ofNat d, .negSucc e, .negSucc f => sz6_PPNPNN S0 q a b c d e f
  | .ofNat a, .ofNat b, .negSucc c, .negSucc d, .ofNat e, .ofNat f => sz6_PPNNPP S0 q a b c d e f
  | .ofNat a, .ofNat b, .negSucc c, .negSucc d, .ofNat e, .negSucc f => sz6_PPNNPN S0 q a b c d e f
  | .ofNat a, .ofNat b, .negSucc c, .negSucc d, .negSucc e, .ofNat f => sz6_PPNNNP S0 q a b c d e f
  | .ofNat a, .ofNat b, .negSucc c, .negSucc d, .negSucc e, .negSucc f => sz6_PPNNNN S0 q a b c d e f
  | .ofNat a, .negSucc b, .ofNat c, .ofNat d, .ofNat e, .ofNat f => sz6_PNPPPP S0 q a b c d e f
  | .ofNat a, .negSucc b, .ofNat c, .ofNat d, .ofNat e, .negSucc f => sz6_PNPPPN S0 q a b c d e f
  | .ofNat a, .negSucc b, .ofNat c, .ofNat d, .negSucc e, .ofNat f => sz6_PNPPNP S0 q a b c d e f
  | .ofNat a, .negSucc b, .ofNat c, .ofNat d, .negSucc e, .negSucc f => sz6_PNPPNN S0 q a b c d e f
  | .ofNat a, .negSucc b, .ofNat c, .negSucc d, .ofNat e, .ofNat f => sz6_PNPNPP S0 q a b c d e f
  | .ofNat a, .negSucc b, .ofNat c, .negSucc d, .ofNat e, .negSucc f => sz6_PNPNPN S0 q a b c d e f
  | .ofNat a, .negSucc b, .ofNat c, .negSucc d, .negSucc e, .ofNat f => sz6_PNPNNP S0 q a b c d e f
  | .ofNat a, .negSucc b, .ofNat c, .negSucc d, .negSucc e, .negSucc f => sz6_PNPNNN S0 q a b c d e f
  | .ofNat a, .negSucc b, .negSucc c, .ofNat d, .ofNat e, .ofNat f => sz6_PNNPPP S0 q a b c d e f
  | .ofNat a, .negSucc b, .negSucc c, .ofNat d, .ofNat e, .negSucc f => sz6_PNNPPN S0 q a b c d e f
  | .ofNat a, .negSucc b, .negSucc c, .ofNat d, .negSucc e, .ofNat f => sz6_PNNPNP S0 q a b c d e f
  | .ofNat a, .negSucc b, .negSucc c, .ofNat d, .negSucc e, .negSucc f => sz6_PNNPNN S0 q a b c d e f
  | .ofNat a, .negSucc b, .negSucc c, .negSucc d, .ofNat e, .ofNat f => sz6_PNNNPP S0 q a b c d e f
  | .ofNat a, .negSucc b, .negSucc c, .negSucc d, .ofNat e, .negSucc f => sz6_PNNNPN S0 q a b c d e f
  | .ofNat a, .negSucc b, .negSucc c, .negSucc d, .negSucc e, .ofNat f => sz6_PNNNNP S0 q a b c d e f
  | .ofNat a, .negSucc b, .negSucc c, .negSucc d, .negSucc e, .negSucc f => sz6_PNNNNN S0 q a b c d e f
  | .negSucc a, .ofNat b, .ofNat c, .ofNat d, .ofNat e, .ofNat f => sz6_NPPPPP S0 q a b c d e f
  | .negSucc a, .ofNat b, .ofNat c, .ofNat d, .ofNat e, .negSucc f => sz6_NPPPPN S0 q a b c d e f
  | .negSucc a, .ofNat b, .ofNat c, .ofNat d, .negSucc e, .ofNat f => sz6_NPPPNP S0 q a b c d e f
  | .negSucc a, .ofNat b, .ofNat c, .ofNat d, .negSucc e, .negSucc f => sz6_NPPPNN S0 q a b c d e f
  | .negSucc a, .ofNat b, .ofNat c, .negSucc d, .ofNat e, .ofNat f => sz6_NPPNPP S0 q a b c d e f
  | .negSucc a, .ofNat b, .ofNat c, .negSucc d, .ofNat e, .negSucc f => sz6_NPPNPN S0 q a b c d e f
  | .negSucc a, .ofNat b, .ofNat c, .negSucc d, .negSucc e, .ofNat f => sz6_NPPNNP S0 q a b c d e f
  | .negSucc a, .ofNat b, .ofNat c, .negSucc d, .negSucc e, .negSucc f => sz6_NPPNNN S0 q a b c d e f
  | .negSucc a, .ofNat b, .negSucc c, .ofNat d, .ofNat e, .ofNat f => sz6_NPNPPP S0 q a b c d e f
  | .negSucc a, .ofNat b, .negSucc c, .ofNat d, .ofNat e, .negSucc f => sz6_NPNPPN S0 q a b c d e f
  | .negSucc a, .ofNat b, .negSucc c, .ofNat d, .negSucc e, .ofNat f => sz6_NPNPNP S0 q a b c d e f
  | .negSucc a, .ofNat b, .negSucc c, .ofNat d, .negSucc e, .negSucc f => sz6_NPNPNN S0 q a b c d e f
  | .negSucc a, .ofNat b, .negSucc c, .negSucc d, .ofNat e, .ofNat f => sz6_NPNNPP S0 q a b c d e f
  | .negSucc a, .ofNat b, .negSucc c, .negSucc d, .ofNat e, .negSucc f => sz6_NPNNPN S0 q a b c d e f
  | .negSucc a, .ofNat b, .negSucc c, .negSucc d, .negSucc e, .ofNat f => sz6_NPNNNP S0 q a b c d e f
  | .negSucc a, .ofNat b, .negSucc c, .negSucc d, .negSucc e, .negSucc f => sz6_NPNNNN S0 q a b c d e f
  | .negSucc a, .negSucc b, .ofNat c, .ofNat d, .ofNat e, .ofNat f => sz6_NNPPPP S0 q a b c d e f
  | .negSucc a, .negSucc b, .ofNat c, .ofNat d, .ofNat e, .negSucc f => sz6_NNPPPN S0 q a b c d e f
  | .negSucc a, .negSucc b, .ofNat c, .ofNat d, .negSucc e, .ofNat f => sz6_NNPPNP S0 q a b c d e f
  | .negSucc a, .negSucc b, .ofNat c, .ofNat d, .negSucc e, .negSucc f => sz6_NNPPNN S0 q a b c d e f
  | .negSucc a, .negSucc b, .ofNat c, .negSucc d, .ofNat e, .ofNat f => sz6_NNPNPP S0 q a b c d e f
  | .negSucc a, .negSucc b, .ofNat c, .negSucc d, .ofNat e, .negSucc f => sz6_NNPNPN S0 q a b c d e f
  | .negSucc a, .negSucc b, .ofNat c, .negSucc d, .negSucc e, .ofNat f => sz6_NNPNNP S0 q a b c d e f
  | .negSucc a, .negSucc b, .ofNat c, .negSucc d, .negSucc e, .negSucc f => sz6_NNPNNN S0 q a b c d e f
  | .negSucc a, .negSucc b, .negSucc c, .ofNat d, .ofNat e, .ofNat f => sz6_NNNPPP S0 q a b c d e f
  | .negSucc a, .negSucc b, .negSucc c, .ofNat d, .ofNat e, .negSucc f => sz6_NNNPPN S0 q a b c d e f
  | .negSucc a, .negSucc b, .negSucc c, .ofNat d, .negSucc e, .ofNat f => sz6_NNNPNP S0 q a b c d e f
  | .negSucc a, .negSucc b, .negSucc c, .ofNat d, .negSucc e, .negSucc f => sz6_NNNPNN S0 q a b c d e f
  | .negSucc a, .negSucc b, .negSucc c, .negSucc d, .ofNat e, .ofNat f => sz6_NNNNPP S0 q a b c d e f
  | .negSucc a, .negSucc b, .negSucc c, .negSucc d, .ofNat e, .negSucc f => sz6_NNNNPN S0 q a b c d e f
  | .negSucc a, .negSucc b, .negSucc c, .negSucc d, .negSucc e, .ofNat f => sz6_NNNNNP S0 q a b c d e f
  | .negSucc a, .negSucc b, .negSucc c, .negSucc d, .negSucc e, .negSucc f => sz6_NNNNNN S0 q a b c d e f
theorem szI7 (S0 : Store) (q : Bool) (x : LV) (l : List LV) : ∀ (a b c d e f : Int), SZ S0 q (.int .i64 a :: .int .i64 b :: .int .i64 c :: .int .i64 d :: .int .i64 e :: .int .i64 f :: x :: l) = true
  | .ofNat a, .ofNat b, .ofNat c, .ofNat d, .ofNat e, .ofNat f => sz7_PPPPPP S0 q a b c d e f x l
  | .ofNat a, .ofNat b, .ofNat c, .ofNat d, .ofNat e, .negSucc f => sz7_PPPPPN S0 q a b c d e f x l
  | .ofNat a, .ofNat b, .ofNat c, .ofNat d, .negSucc e, .ofNat f => sz7_PPPPNP S0 q a b c d e f x l
  | .ofNat a, .ofNat b, .ofNat c, .ofNat d, .negSucc e, .negSucc f => sz7_PPPPNN S0 q a b c d e f x l
  | .ofNat a, .ofNat b, .ofNat c, .negSucc d, .ofNat e, .ofNat f => sz7_PPPNPP S0 q a b c d e f x l
  | .ofNat a, .ofNat b, .ofNat c, .negSucc d, .ofNat e, .negSucc f => sz7_PPPNPN S0 q a b c d e f x l
  | .ofNat a, .ofNat b, .ofNat c, .negSucc d, .negSucc e, .ofNat f => sz7_PPPNNP S0 q a b c d e f x l
  | .ofNat a, .ofNat b, .ofNat c, .negSucc d, .negSucc e, .negSucc f => sz7_PPPNNN S0 q a b c d e f x l
  | .ofNat a, .ofNat b, .negSucc c, .ofNat d, .ofNat e, .ofNat f => sz7_PPNPPP S0 q a b c d e f x l
  | .ofNat a, .ofNat b, .negSucc c, .ofNat d, .ofNat e, .negSucc f => sz7_PPNPPN S0 q a b c d e f x l
  | .ofNat a, .ofNat b, .negSucc c, .ofNat d, .negSucc e, .ofNat f => sz7_PPNPNP S0 q a b c d e f x l
  | .ofNat a, .ofNat b, .negSucc c, .ofNat d, .negSucc e, .negSucc f => sz7_PPNPNN S0 q a b c d e f x l
  | .ofNat a, .ofNat b, .negSucc c, .negSucc d, .ofNat e, .ofNat f => sz7_PPNNPP S0 q a b c d e f x l
  | .ofNat a, .ofNat b, .negSucc c, .negSucc d, .ofNat e, .negSucc f => sz7_PPNNPN S0 q a b c d e f x l
  | .ofNat a, .ofNat b, .negSucc c, .negSucc d, .negSucc e, .ofNat f => sz7_PPNNNP S0 q a b c d e f x l
  | .ofNat a, .ofNat b, .negSucc c, .negSucc d, .negSucc e, .negSucc f => sz7_PPNNNN S0 q a b c d e f x l
  | .ofNat a, .negSucc b, .ofNat c, .ofNat d, .ofNat e, .ofNat f => sz7_PNPPPP S0 q a b c d e f x l
  | .ofNat a, .negSucc b, .ofNat c, .ofNat d, .ofNat e, .negSucc f => sz7_PNPPPN S0 q a b c d e f x l
  | .ofNat a, .negSucc b, .ofNat c, .ofNat d, .negSucc e, .ofNat f => sz7_PNPPNP S0 q a b c d e f x l
  | .ofNat a, .negSucc b, .ofNat c, .ofNat d, .negSucc e, .negSucc f => sz7_PNPPNN S0 q a b c d e f x l
  | .ofNat a, .negSucc b, .ofNat c, .negSucc d, .ofNat e, .ofNat f => sz7_PNPNPP S0 q a b c d e f x l
  | .ofNat a, .negSucc b, .ofNat c, .negSucc d, .ofNat e, .negSucc f => sz7_PNPNPN S0 q a b c d e f x l
  | .ofNat a, .negSucc b, .ofNat c, .negSucc d, .negSucc e, .ofNat f => sz7_PNPNNP S0 q a b c d e f x l
  | .ofNat a, .negSucc b, .ofNat c, .negSucc d, .negSucc e, .negSucc f => sz7_PNPNNN S0 q a b c d e f x l
  | .ofNat a, .negSucc b, .negSucc c, .ofNat d, .ofNat e, .ofNat f => sz7_PNNPPP S0 q a b c d e f x l
  | .ofNat a, .negSucc b, .negSucc c, .ofNat d, .ofNat e, .negSucc f => sz7_PNNPPN S0 q a b c d e f x l
  | .ofNat a, .negSucc b, .negSucc c, .ofNat d, .negSucc e, .ofNat f => sz7_PNNPNP S0 q a b c d e f x l
  | .ofNat a, .negSucc b, .negSucc c, .ofNat d, .negSucc e, .negSucc f => sz7_PNNPNN S0 q a b c d e f x l
  | .ofNat a, .negSucc b, .negSucc c, .negSucc d, .ofNat e, .ofNat f => sz7_PNNNPP S0 q a b c d e f x l
  | .ofNat a, .negSucc b, .negSucc c, .negSucc d, .ofNat e, .negSucc f => sz7_PNNNPN S0 q a b c d e f x l
  | .ofNat a, .negSucc b, .negSucc c, .negSucc d, .negSucc e, .ofNat f => sz7_PNNNNP S0 q a b c d e f x l
  | .ofNat a, .negSucc b, .negSucc c, .negSucc d, .negSucc e, .negSucc f => sz7_PNNNNN S0 q a b c d e f x l
  | .negSucc a, .ofNat b, .ofNat c, .ofNat d, .ofNat e, .ofNat f => sz7_NPPPPP S0 q a b c d e f x l
  | .negSucc a, .ofNat b, .ofNat c, .ofNat d, .ofNat e, .negSucc f => sz7_NPPPPN S0 q a b c d e f x l
  | .negSucc a, .ofNat b, .ofNat c, .ofNat d, .negSucc e, .ofNat f => sz7_NPPPNP S0 q a b c d e f x l
  | .negSucc a, .ofNat b, .ofNat c, .ofNat d, .negSucc e, .negSucc f => sz7_NPPPNN S0 q a b c d e f x l
  | .negSucc a, .ofNat b, .ofNat c, .negSucc d, .ofNat e, .ofNat f => sz7_NPPNPP S0 q a b c d e f x l
  | .negSucc a, .ofNat b, .ofNat c, .negSucc d, .ofNat e, .negSucc f => sz7_NPPNPN S0 q a b c d e f x l
  | .negSucc a, .ofNat b, .ofNat c, .negSucc d, .negSucc e, .ofNat f => sz7_NPPNNP S0 q a b c d e f x l
  | .negSucc a, .ofNat b, .ofNat c, .negSucc d, .negSucc e, .negSucc f => sz7_NPPNNN S0 q a b c d e f x l
  | .negSucc a, .ofNat b, .negSucc c, .ofNat d, .ofNat e, .ofNat f => sz7_NPNPPP S0 q a b c d e f x l
  | .negSucc a, .ofNat b, .negSucc c, .ofNat d, .ofNat e, .negSucc f => sz7_NPNPPN S0 q a b c d e f x l
  | .negSucc a, .ofNat b, .negSucc c, .ofNat d, .negSucc e, .ofNat f => sz7_NPNPNP S0 q a b c d e f x l
  | .negSucc a, .ofNat b, .negSucc c, .ofNat d, .negSucc e, .negSucc f => sz7_NPNPNN S0 q a b c d e f x l
  | .negSucc a, .ofNat b, .negSucc c, .negSucc d, .ofNat e, .ofNat f => sz7_NPNNPP S0 q a b c d e f x l
  | .negSucc a, .ofNat b, .negSucc c, .negSucc d, .ofNat e, .negSucc f => sz7_NPNNPN S0 q a b c d e f x l
  | .negSucc a, .ofNat b, .negSucc c, .negSucc d, .negSucc e, .ofNat f => sz7_NPNNNP S0 q a b c d e f x l
  | .negSucc a, .ofNat b, .negSucc c, .negSucc d, .negSucc e, .negSucc f => sz7_NPNNNN S0 q a b c d e f x l
  | .negSucc a, .negSucc b, .ofNat c, .ofNat d, .ofNat e, .ofNat f => sz7_NNPPPP S0 q a b c d e f x l
  | .negSucc a, .negSucc b, .ofNat c, .ofNat d, .ofNat e, .negSucc f => sz7_NNPPPN S0 q a b c d e f x l
  | .negSucc a, .negSucc b, .ofNat c, .ofNat d, .negSucc e, .ofNat f => sz7_NNPPNP S0 q a b c d e f x l
  | .negSucc a, .negSucc b, .ofNat c, .ofNat d, .negSucc e, .negSucc f => sz7_NNPPNN S0 q a b c d e f x l
  | .negSucc a, .negSucc b, .ofNat c, .negSucc d, .ofNat e, .ofNat f => sz7_NNPNPP S0 q a b c d e f x l
  | .negSucc a, .negSucc b, .ofNat c, .negSucc d, .ofNat e, .negSucc f => sz7_NNPNPN S0 q a b c d e f x l
  | .negSucc a, .negSucc b, .ofNat c, .negSucc d, .negSucc e, .ofNat f => sz7_NNPNNP S0 q a b c d e f x l
  | .negSucc a, .negSucc b, .ofNat c, .negSucc d, .negSucc e, .negSucc f => sz7_NNPNNN S0 q a b c d e f x l
  | .negSucc a, .negSucc b, .negSucc c, .ofNat d, .ofNat e, .ofNat f => sz7_NNNPPP S0 q a b c d e f x l
  | .negSucc a, .negSucc b, .negSucc c, .ofNat d, .ofNat e, .negSucc f => sz7_NNNPPN S0 q a b c d e f x l
  | .negSucc a, .negSucc b, .negSucc c, .ofNat d, .negSucc e, .ofNat f => sz7_NNNPNP S0 q a b c d e f x l
  | .negSucc a, .negSucc b, .negSucc c, .ofNat d, .negSucc e, .negSucc f => sz7_NNNPNN S0 q a b c d e f x l
  | .negSucc a, .negSucc b, .negSucc c, .negSucc d, .ofNat e, .ofNat f => sz7_NNNNPP S0 q a b c d e f x l
  | .negSucc a, .negSucc b, .negSucc c, .negSucc d, .ofNat e, .negSucc f => sz7_NNNNPN S0 q a b c d e f x l
  | .negSucc a, .negSucc b, .negSucc c, .negSucc d, .negSucc e, .ofNat f => sz7_NNNNNP S0 q a b c d e f x l
  | .negSucc a, .negSucc b, .negSucc c, .negSucc d, .negSucc e, .negSucc f => sz7_NNNNNN S0 q a b c d e f x l
theorem szI (S0 : Store) (q : Bool) : ∀ l : List Int, SZ S0 q (l.map fun n => LV.int .i64 n) = true
  | [] => szI0 S0 q 
  | [a] => szI1 S0 q a
  | [a, b] => szI2 S0 q a b
  | [a, b, c] => szI3 S0 q a b c
  | [a, b, c, d] => szI4 S0 q a b c d
  | [a, b, c, d, e] => szI5 S0 q a b c d e
  | [a, b, c, d, e, f] => szI6 S0 q a b c d e f
  | a :: b :: c :: d :: e :: f :: x :: l => szI7 S0 q _ _ a b c d e f
theorem sz_all (q : Bool) (l : List Int) : ∃ S', W Cb Tb n_law18_SubZero [.sl q (l.map fun n => LV.int .i64 n)] [] = some (.bool true, S') := T1_run aw18 fun S0 => szI S0 q l
end Go.Am

