/- Hashes, and small helpers that many packages share. -/
import Derived.Test.YtjoffkghcjfbeaaLgNX
namespace Lg
open Go
abbrev intL (n : Int) : L := .v (.int .i64 n)
abbrev boolL (b : Bool) : L := .v (.bool b)
def hstep (h c : Int) : Int := IntKind.u64.wrap (bitsI .xor .u64 h (IntKind.u64.wrap c) * 1099511628211)
def hloop (s : Int) (bs : List Int) : Int := bs.foldl hstep (bitsI .xor .u64 s 11400714819323198485)
def hend1 (h : Int) : Int := bitsI .xor .u64 h (shrI .u64 h 29)
def hend2 (h : Int) : Int := IntKind.u64.wrap (h * 13787848793156543929)
def hend3 (h : Int) : Int := bitsI .xor .u64 h (shrI .u64 h 32)
def hends (h : Int) : Nat → Int
 | 0 => h
 | 1 => hend1 h
 | 2 => hend2 (hend1 h)
 | _ => hend3 (hend2 (hend1 h))
def place (h n : Int) : Int := if n < 1 then 0 else IntKind.i64.wrap (h.tmod (IntKind.u64.wrap n))
end Lg

