/- The contracts of desc.binary, desc.decimal, desc.All, desc.Of and of the reference's Of: what each format is, for every number. No conditions. -/
import Derived.Test.YtojbdaeidbmjgaaBase
namespace Go.Proofs.Ytojbdaeidbmjgaa
open Go.RowKit

/-- A format's name. -/
def nmF : Int → ByteArray
  | 1 => ⟨#[72, 97, 108, 102]⟩ | 2 => ⟨#[66, 114, 97, 105, 110]⟩ | 3 => ⟨#[83, 105, 110, 103, 108, 101]⟩ | 4 => ⟨#[68, 111, 117, 98, 108, 101]⟩
  | 5 => ⟨#[81, 117, 97, 100]⟩ | 6 => ⟨#[79, 99, 116, 111]⟩
  | 7 => ⟨#[80, 108, 97, 105, 110, 51, 50]⟩ | 8 => ⟨#[80, 108, 97, 105, 110, 54, 52]⟩ | 9 => ⟨#[80, 108, 97, 105, 110, 49, 50, 56]⟩
  | 10 => ⟨#[68, 101, 110, 115, 101, 51, 50]⟩ | 11 => ⟨#[68, 101, 110, 115, 101, 54, 52]⟩ | 12 => ⟨#[68, 101, 110, 115, 101, 49, 50, 56]⟩
  | _ => ⟨#[]⟩
/-- precision, exponent's bits or greatest exponent, width, greatest exponent E. -/
def prF : Int → Int
  | 1 => 11 | 2 => 8 | 3 => 24 | 4 => 53 | 5 => 113 | 6 => 241 | 7 => 7 | 8 => 16 | 9 => 34 | 10 => 7 | 11 => 16 | 12 => 34 | _ => 0
def exF : Int → Int
  | 1 => 5 | 2 => 8 | 3 => 8 | 4 => 11 | 5 => 15 | 6 => 15 | 7 => 96 | 8 => 384 | 9 => 6144 | 10 => 96 | 11 => 384 | 12 => 6144 | _ => 0
def wdF : Int → Int
  | 1 => 16 | 2 => 16 | 3 => 32 | 4 => 64 | 5 => 128 | 6 => 256 | 7 => 32 | 8 => 64 | 9 => 128 | 10 => 32 | 11 => 64 | 12 => 128 | _ => 0
def emF : Int → Int
  | 1 => 15 | 2 => 127 | 3 => 127 | 4 => 1023 | 5 => 16383 | 6 => 16383 | 7 => 96 | 8 => 384 | 9 => 6144 | 10 => 96 | 11 => 384 | 12 => 6144 | _ => 0
def bsF (n : Int) : Int := if n ≤ 6 then 2 else 10
def plF (n : Int) : Int := if n ≤ 6 then prF n - 2 else prF n - 1
def loF (n : Int) : Int := 2 - emF n - prF n
def hiF (n : Int) : Int := emF n + 1 - prF n
/-- What desc.Info holds of a format. -/
def infF (n : Int) : Array Value :=
  #[.int .i64 n, .string (nmF n), .int .i64 (bsF n), .int .i64 (wdF n), .int .i64 (prF n), .int .i64 (exF n), .int .i64 (loF n), .int .i64 (hiF n), .int .i64 (plF n), .bool (decide (10 ≤ n))]
def inf0 : Array Value :=
  #[.int .i64 0, .string ⟨#[]⟩, .int .i64 0, .int .i64 0, .int .i64 0, .int .i64 0, .int .i64 0, .int .i64 0, .int .i64 0, .bool false]

theorem inf_lit1 : infF 1 = #[.int .i64 1, .string ⟨#[72, 97, 108, 102]⟩, .int .i64 2, .int .i64 16, .int .i64 11, .int .i64 5, .int .i64 (-24), .int .i64 5, .int .i64 9, .bool false] := rfl
theorem inf_lit2 : infF 2 = #[.int .i64 2, .string ⟨#[66, 114, 97, 105, 110]⟩, .int .i64 2, .int .i64 16, .int .i64 8, .int .i64 8, .int .i64 (-133), .int .i64 120, .int .i64 6, .bool false] := rfl
theorem inf_lit3 : infF 3 = #[.int .i64 3, .string ⟨#[83, 105, 110, 103, 108, 101]⟩, .int .i64 2, .int .i64 32, .int .i64 24, .int .i64 8, .int .i64 (-149), .int .i64 104, .int .i64 22, .bool false] := rfl
theorem inf_lit4 : infF 4 = #[.int .i64 4, .string ⟨#[68, 111, 117, 98, 108, 101]⟩, .int .i64 2, .int .i64 64, .int .i64 53, .int .i64 11, .int .i64 (-1074), .int .i64 971, .int .i64 51, .bool false] := rfl
theorem inf_lit5 : infF 5 = #[.int .i64 5, .string ⟨#[81, 117, 97, 100]⟩, .int .i64 2, .int .i64 128, .int .i64 113, .int .i64 15, .int .i64 (-16494), .int .i64 16271, .int .i64 111, .bool false] := rfl
theorem inf_lit6 : infF 6 = #[.int .i64 6, .string ⟨#[79, 99, 116, 111]⟩, .int .i64 2, .int .i64 256, .int .i64 241, .int .i64 15, .int .i64 (-16622), .int .i64 16143, .int .i64 239, .bool false] := rfl
theorem inf_lit7 : infF 7 = #[.int .i64 7, .string ⟨#[80, 108, 97, 105, 110, 51, 50]⟩, .int .i64 10, .int .i64 32, .int .i64 7, .int .i64 96, .int .i64 (-101), .int .i64 90, .int .i64 6, .bool false] := rfl
theorem inf_lit8 : infF 8 = #[.int .i64 8, .string ⟨#[80, 108, 97, 105, 110, 54, 52]⟩, .int .i64 10, .int .i64 64, .int .i64 16, .int .i64 384, .int .i64 (-398), .int .i64 369, .int .i64 15, .bool false] := rfl
theorem inf_lit9 : infF 9 = #[.int .i64 9, .string ⟨#[80, 108, 97, 105, 110, 49, 50, 56]⟩, .int .i64 10, .int .i64 128, .int .i64 34, .int .i64 6144, .int .i64 (-6176), .int .i64 6111, .int .i64 33, .bool false] := rfl
theorem inf_lit10 : infF 10 = #[.int .i64 10, .string ⟨#[68, 101, 110, 115, 101, 51, 50]⟩, .int .i64 10, .int .i64 32, .int .i64 7, .int .i64 96, .int .i64 (-101), .int .i64 90, .int .i64 6, .bool true] := rfl
theorem inf_lit11 : infF 11 = #[.int .i64 11, .string ⟨#[68, 101, 110, 115, 101, 54, 52]⟩, .int .i64 10, .int .i64 64, .int .i64 16, .int .i64 384, .int .i64 (-398), .int .i64 369, .int .i64 15, .bool true] := rfl
theorem inf_lit12 : infF 12 = #[.int .i64 12, .string ⟨#[68, 101, 110, 115, 101, 49, 50, 56]⟩, .int .i64 10, .int .i64 128, .int .i64 34, .int .i64 6144, .int .i64 (-6176), .int .i64 6111, .int .i64 33, .bool true] := rfl
theorem twelve {n : Int} (h : 1 ≤ n) (h' : n ≤ 12) : n = 1 ∨ n = 2 ∨ n = 3 ∨ n = 4 ∨ n = 5 ∨ n = 6 ∨ n = 7 ∨ n = 8 ∨ n = 9 ∨ n = 10 ∨ n = 11 ∨ n = 12 := by omega

set_option maxHeartbeats 4000000 in
theorem binary_calls (n : Int) (w : World) (hn : n = 1 ∨ n = 2 ∨ n = 3 ∨ n = 4 ∨ n = 5 ∨ n = 6) :
    Calls Try.prog 76 #[.int .i64 n, .string (nmF n), .int .i64 (prF n), .int .i64 (exF n)] w
      fun e w' => e = .returned (.agg (infF n)) ∧ Below w.heap.size w w' := by
  rcases hn with rfl | rfl | rfl | rfl | rfl | rfl
  all_goals
    simp only [nmF, prF, exF]
    go_enter Try.func76, Try.ntmps76
    go_wp2
    exact bodyPost_ret (v := .agg (infF _)) (by simp [results, Try.results76, go_sem]; rfl) rfl ⟨rfl, (Below.refl _ _).alloc (Nat.le_refl _) _⟩

set_option maxHeartbeats 4000000 in
theorem decimal_calls (n : Int) (w : World) (hn : n = 7 ∨ n = 8 ∨ n = 9 ∨ n = 10 ∨ n = 11 ∨ n = 12) :
    Calls Try.prog 77 #[.int .i64 n, .string (nmF n), .int .i64 (wdF n), .int .i64 (prF n), .int .i64 (exF n)] w
      fun e w' => e = .returned (.agg (infF n)) ∧ Below w.heap.size w w' := by
  rcases hn with rfl | rfl | rfl | rfl | rfl | rfl
  all_goals
    simp only [nmF, prF, exF, wdF]
    go_enter Try.func77, Try.ntmps77
    go_wp2
    exact bodyPost_ret (v := .agg (infF _)) (by simp [results, Try.results77, go_sem]; rfl) rfl ⟨rfl, (Below.refl _ _).alloc (Nat.le_refl _) _⟩

/-- All's block: the twelve formats, cell by cell. -/
def allCells : Array Value := (infF 1).append ((infF 2).append ((infF 3).append ((infF 4).append ((infF 5).append ((infF 6).append ((infF 7).append ((infF 8).append ((infF 9).append ((infF 10).append ((infF 11).append (infF 12)))))))))))
end Go.Proofs.Ytojbdaeidbmjgaa
