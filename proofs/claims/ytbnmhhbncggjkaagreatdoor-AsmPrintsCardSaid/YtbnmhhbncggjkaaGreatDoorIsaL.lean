/- Numbers: the parts of an instruction's number added up. Conditions: none. -/
import Derived.Test.YtbnmhhbncggjkaaGreatDoorNum
set_option linter.unusedVariables false
set_option linter.unusedSimpArgs false
namespace Go.Proofs.YtbnmhhbncggjkaaGreatDoor
open Go Go.RowKit
theorem laid1 (c f g n : Int) (c0 : 0 ≤ c) (c1 : c < 128) (f0 : 0 ≤ f) (f1 : f < 8) (g0 : 0 ≤ g) (g1 : g < 128) : bits .or .u32 (bits .or .u32 (c) (f * 4096)) (g * 33554432) = c + f * 4096 + g * 33554432 := by
  rw [or_mid32 (a := c) (b := f * 4096) 12 3 (c) (0) (f) (by omega) (by omega) (by omega) (by omega) (by omega) (by omega) (by omega) (by omega) (by omega),
    or_mid32 (a := c + f * 4096) (b := g * 33554432) 25 7 (c + f * 4096) (0) (g) (by omega) (by omega) (by omega) (by omega) (by omega) (by omega) (by omega) (by omega) (by omega)]
theorem laid2 (c f g n : Int) (c0 : 0 ≤ c) (c1 : c < 128) (f0 : 0 ≤ f) (f1 : f < 8) (g0 : 0 ≤ g) (g1 : g < 128) : bits .or .u32 (bits .or .u32 (c) (f * 4096)) (bitsN n 0 12 * 1048576) = c + f * 4096 + (n % 4096) * 1048576 := by
  have e0 : bitsN n 0 12 = n % 4096 := by show n / 1 % 4096 = _; rw [Int.ediv_one]
  rw [e0]
  rw [or_mid32 (a := c) (b := f * 4096) 12 3 (c) (0) (f) (by omega) (by omega) (by omega) (by omega) (by omega) (by omega) (by omega) (by omega) (by omega),
    or_mid32 (a := c + f * 4096) (b := (n % 4096) * 1048576) 20 12 (c + f * 4096) (0) ((n % 4096)) (by omega) (by omega) (by omega) (by omega) (by omega) (by omega) (by omega) (by omega) (by omega)]
theorem laid25 (c f g n : Int) (c0 : 0 ≤ c) (c1 : c < 128) (f0 : 0 ≤ f) (f1 : f < 8) (g0 : 0 ≤ g) (g1 : g < 128) (n0 : 0 ≤ n) (n1 : n < 32) : bits .or .u32 (bits .or .u32 (bits .or .u32 (c) (f * 4096)) (bitsN n 0 12 * 1048576)) (g * 33554432) = c + f * 4096 + (n % 4096) * 1048576 + g * 33554432 := by
  have e0 : bitsN n 0 12 = n % 4096 := by show n / 1 % 4096 = _; rw [Int.ediv_one]
  rw [e0]
  rw [or_mid32 (a := c) (b := f * 4096) 12 3 (c) (0) (f) (by omega) (by omega) (by omega) (by omega) (by omega) (by omega) (by omega) (by omega) (by omega),
    or_mid32 (a := c + f * 4096) (b := (n % 4096) * 1048576) 20 12 (c + f * 4096) (0) ((n % 4096)) (by omega) (by omega) (by omega) (by omega) (by omega) (by omega) (by omega) (by omega) (by omega),
    or_mid32 (a := c + f * 4096 + (n % 4096) * 1048576) (b := g * 33554432) 25 7 (c + f * 4096 + (n % 4096) * 1048576) (0) (g) (by omega) (by omega) (by omega) (by omega) (by omega) (by omega) (by omega) (by omega) (by omega)]
theorem laid26 (c f g n : Int) (c0 : 0 ≤ c) (c1 : c < 128) (f0 : 0 ≤ f) (f1 : f < 8) (g0 : 0 ≤ g) (g1 : g < 128) (n0 : 0 ≤ n) (n1 : n < 64) (hg : g < 64) : bits .or .u32 (bits .or .u32 (bits .or .u32 (c) (f * 4096)) (bitsN n 0 12 * 1048576)) (g * 67108864) = c + f * 4096 + (n % 4096) * 1048576 + g * 67108864 := by
  have e0 : bitsN n 0 12 = n % 4096 := by show n / 1 % 4096 = _; rw [Int.ediv_one]
  rw [e0]
  rw [or_mid32 (a := c) (b := f * 4096) 12 3 (c) (0) (f) (by omega) (by omega) (by omega) (by omega) (by omega) (by omega) (by omega) (by omega) (by omega),
    or_mid32 (a := c + f * 4096) (b := (n % 4096) * 1048576) 20 12 (c + f * 4096) (0) ((n % 4096)) (by omega) (by omega) (by omega) (by omega) (by omega) (by omega) (by omega) (by omega) (by omega),
    or_mid32 (a := c + f * 4096 + (n % 4096) * 1048576) (b := g * 67108864) 26 6 (c + f * 4096 + (n % 4096) * 1048576) (0) (g) (by omega) (by omega) (by omega) (by omega) (by omega) (by omega) (by omega) (by omega) (by omega)]
theorem laid4 (c f g n : Int) (c0 : 0 ≤ c) (c1 : c < 128) (f0 : 0 ≤ f) (f1 : f < 8) (g0 : 0 ≤ g) (g1 : g < 128) : bits .or .u32 (bits .or .u32 (bits .or .u32 (c) (f * 4096)) (bitsN n 0 5 * 128)) (bitsN n 5 7 * 33554432) = c + f * 4096 + (n % 32) * 128 + (n / 32 % 128) * 33554432 := by
  have e0 : bitsN n 0 5 = n % 32 := by show n / 1 % 32 = _; rw [Int.ediv_one]
  rw [e0]
  have e1 : bitsN n 5 7 = n / 32 % 128 := rfl
  rw [e1]
  rw [or_mid32 (a := c) (b := f * 4096) 12 3 (c) (0) (f) (by omega) (by omega) (by omega) (by omega) (by omega) (by omega) (by omega) (by omega) (by omega),
    or_mid32 (a := c + f * 4096) (b := (n % 32) * 128) 7 5 (c) (f * 1) ((n % 32)) (by omega) (by omega) (by omega) (by omega) (by omega) (by omega) (by omega) (by omega) (by omega),
    or_mid32 (a := c + f * 4096 + (n % 32) * 128) (b := (n / 32 % 128) * 33554432) 25 7 (c + f * 4096 + (n % 32) * 128) (0) ((n / 32 % 128)) (by omega) (by omega) (by omega) (by omega) (by omega) (by omega) (by omega) (by omega) (by omega)]
theorem laid5 (c f g n : Int) (c0 : 0 ≤ c) (c1 : c < 128) (f0 : 0 ≤ f) (f1 : f < 8) (g0 : 0 ≤ g) (g1 : g < 128) : bits .or .u32 (bits .or .u32 (bits .or .u32 (bits .or .u32 (bits .or .u32 (c) (f * 4096)) (bitsN n 12 1 * 2147483648)) (bitsN n 5 6 * 33554432)) (bitsN n 1 4 * 256)) (bitsN n 11 1 * 128) = c + f * 4096 + (n / 4096 % 2) * 2147483648 + (n / 32 % 64) * 33554432 + (n / 2 % 16) * 256 + (n / 2048 % 2) * 128 := by
  have e0 : bitsN n 12 1 = n / 4096 % 2 := rfl
  rw [e0]
  have e1 : bitsN n 5 6 = n / 32 % 64 := rfl
  rw [e1]
  have e2 : bitsN n 1 4 = n / 2 % 16 := rfl
  rw [e2]
  have e3 : bitsN n 11 1 = n / 2048 % 2 := rfl
  rw [e3]
  rw [or_mid32 (a := c) (b := f * 4096) 12 3 (c) (0) (f) (by omega) (by omega) (by omega) (by omega) (by omega) (by omega) (by omega) (by omega) (by omega),
    or_mid32 (a := c + f * 4096) (b := (n / 4096 % 2) * 2147483648) 31 1 (c + f * 4096) (0) ((n / 4096 % 2)) (by omega) (by omega) (by omega) (by omega) (by omega) (by omega) (by omega) (by omega) (by omega),
    or_mid32 (a := c + f * 4096 + (n / 4096 % 2) * 2147483648) (b := (n / 32 % 64) * 33554432) 25 6 (c + f * 4096) ((n / 4096 % 2) * 1) ((n / 32 % 64)) (by omega) (by omega) (by omega) (by omega) (by omega) (by omega) (by omega) (by omega) (by omega),
    or_mid32 (a := c + f * 4096 + (n / 4096 % 2) * 2147483648 + (n / 32 % 64) * 33554432) (b := (n / 2 % 16) * 256) 8 4 (c) (f * 1 + (n / 4096 % 2) * 524288 + (n / 32 % 64) * 8192) ((n / 2 % 16)) (by omega) (by omega) (by omega) (by omega) (by omega) (by omega) (by omega) (by omega) (by omega),
    or_mid32 (a := c + f * 4096 + (n / 4096 % 2) * 2147483648 + (n / 32 % 64) * 33554432 + (n / 2 % 16) * 256) (b := (n / 2048 % 2) * 128) 7 1 (c) (f * 16 + (n / 4096 % 2) * 8388608 + (n / 32 % 64) * 131072 + (n / 2 % 16) * 1) ((n / 2048 % 2)) (by omega) (by omega) (by omega) (by omega) (by omega) (by omega) (by omega) (by omega) (by omega)]
theorem laid6 (c f g n : Int) (c0 : 0 ≤ c) (c1 : c < 128) (f0 : 0 ≤ f) (f1 : f < 8) (g0 : 0 ≤ g) (g1 : g < 128) (hf : f = 0) : bits .or .u32 (bits .or .u32 (c) (f * 4096)) (bitsN n 12 20 * 4096) = c + f * 4096 + (n / 4096 % 1048576) * 4096 := by
  have e0 : bitsN n 12 20 = n / 4096 % 1048576 := rfl
  rw [e0]
  rw [or_mid32 (a := c) (b := f * 4096) 12 3 (c) (0) (f) (by omega) (by omega) (by omega) (by omega) (by omega) (by omega) (by omega) (by omega) (by omega),
    or_mid32 (a := c + f * 4096) (b := (n / 4096 % 1048576) * 4096) 12 20 (c) (0) ((n / 4096 % 1048576)) (by omega) (by omega) (by omega) (by omega) (by omega) (by omega) (by omega) (by omega) (by omega)]
theorem laid7 (c f g n : Int) (c0 : 0 ≤ c) (c1 : c < 128) (f0 : 0 ≤ f) (f1 : f < 8) (g0 : 0 ≤ g) (g1 : g < 128) (hf : f = 0) : bits .or .u32 (bits .or .u32 (bits .or .u32 (bits .or .u32 (bits .or .u32 (c) (f * 4096)) (bitsN n 20 1 * 2147483648)) (bitsN n 1 10 * 2097152)) (bitsN n 11 1 * 1048576)) (bitsN n 12 8 * 4096) = c + f * 4096 + (n / 1048576 % 2) * 2147483648 + (n / 2 % 1024) * 2097152 + (n / 2048 % 2) * 1048576 + (n / 4096 % 256) * 4096 := by
  have e0 : bitsN n 20 1 = n / 1048576 % 2 := rfl
  rw [e0]
  have e1 : bitsN n 1 10 = n / 2 % 1024 := rfl
  rw [e1]
  have e2 : bitsN n 11 1 = n / 2048 % 2 := rfl
  rw [e2]
  have e3 : bitsN n 12 8 = n / 4096 % 256 := rfl
  rw [e3]
  rw [or_mid32 (a := c) (b := f * 4096) 12 3 (c) (0) (f) (by omega) (by omega) (by omega) (by omega) (by omega) (by omega) (by omega) (by omega) (by omega),
    or_mid32 (a := c + f * 4096) (b := (n / 1048576 % 2) * 2147483648) 31 1 (c + f * 4096) (0) ((n / 1048576 % 2)) (by omega) (by omega) (by omega) (by omega) (by omega) (by omega) (by omega) (by omega) (by omega),
    or_mid32 (a := c + f * 4096 + (n / 1048576 % 2) * 2147483648) (b := (n / 2 % 1024) * 2097152) 21 10 (c + f * 4096) ((n / 1048576 % 2) * 1) ((n / 2 % 1024)) (by omega) (by omega) (by omega) (by omega) (by omega) (by omega) (by omega) (by omega) (by omega),
    or_mid32 (a := c + f * 4096 + (n / 1048576 % 2) * 2147483648 + (n / 2 % 1024) * 2097152) (b := (n / 2048 % 2) * 1048576) 20 1 (c + f * 4096) ((n / 1048576 % 2) * 1024 + (n / 2 % 1024) * 1) ((n / 2048 % 2)) (by omega) (by omega) (by omega) (by omega) (by omega) (by omega) (by omega) (by omega) (by omega),
    or_mid32 (a := c + f * 4096 + (n / 1048576 % 2) * 2147483648 + (n / 2 % 1024) * 2097152 + (n / 2048 % 2) * 1048576) (b := (n / 4096 % 256) * 4096) 12 8 (c) ((n / 1048576 % 2) * 2048 + (n / 2 % 1024) * 2 + (n / 2048 % 2) * 1) ((n / 4096 % 256)) (by omega) (by omega) (by omega) (by omega) (by omega) (by omega) (by omega) (by omega) (by omega)]
theorem laid8 (c f g n : Int) (c0 : 0 ≤ c) (c1 : c < 128) (f0 : 0 ≤ f) (f1 : f < 8) (g0 : 0 ≤ g) (g1 : g < 128) (hg : g < 32) : bits .or .u32 (bits .or .u32 (bits .or .u32 (c) (f * 4096)) (g * 1048576)) (4261412864) = c + f * 4096 + g * 1048576 + 4261412864 := by
  rw [or_mid32 (a := c) (b := f * 4096) 12 3 (c) (0) (f) (by omega) (by omega) (by omega) (by omega) (by omega) (by omega) (by omega) (by omega) (by omega),
    or_mid32 (a := c + f * 4096) (b := g * 1048576) 20 5 (c + f * 4096) (0) (g) (by omega) (by omega) (by omega) (by omega) (by omega) (by omega) (by omega) (by omega) (by omega),
    or_mid32 (a := c + f * 4096 + g * 1048576) (b := 4261412864) 25 7 (c + f * 4096 + g * 1048576) (0) (127) (by omega) (by omega) (by omega) (by omega) (by omega) (by omega) (by omega) (by omega) (by omega)]
theorem laid9 (c f g n : Int) (c0 : 0 ≤ c) (c1 : c < 128) (f0 : 0 ≤ f) (f1 : f < 8) (g0 : 0 ≤ g) (g1 : g < 128) : bits .or .u32 (bits .or .u32 (c) (f * 4096)) (g * 1048576) = c + f * 4096 + g * 1048576 := by
  rw [or_mid32 (a := c) (b := f * 4096) 12 3 (c) (0) (f) (by omega) (by omega) (by omega) (by omega) (by omega) (by omega) (by omega) (by omega) (by omega),
    or_mid32 (a := c + f * 4096) (b := g * 1048576) 20 12 (c + f * 4096) (0) (g) (by omega) (by omega) (by omega) (by omega) (by omega) (by omega) (by omega) (by omega) (by omega)]
theorem laid10 (c f g n : Int) (c0 : 0 ≤ c) (c1 : c < 128) (f0 : 0 ≤ f) (f1 : f < 8) (g0 : 0 ≤ g) (g1 : g < 128) : bits .or .u32 (bits .or .u32 (bits .or .u32 (c) (f * 4096)) (128)) (g * 33554432) = c + f * 4096 + 128 + g * 33554432 := by
  rw [or_mid32 (a := c) (b := f * 4096) 12 3 (c) (0) (f) (by omega) (by omega) (by omega) (by omega) (by omega) (by omega) (by omega) (by omega) (by omega),
    or_mid32 (a := c + f * 4096) (b := 128) 7 1 (c) (f * 16) (1) (by omega) (by omega) (by omega) (by omega) (by omega) (by omega) (by omega) (by omega) (by omega),
    or_mid32 (a := c + f * 4096 + 128) (b := g * 33554432) 25 7 (c + f * 4096 + 1 * 128) (0) (g) (by omega) (by omega) (by omega) (by omega) (by omega) (by omega) (by omega) (by omega) (by omega)]
theorem read4 (x : Int) : bits .or .i64 (bitsN x 25 7 * 32) (bitsN x 7 5) = (x / 33554432 % 128) * 32 + (x / 128 % 32) := by
  have e0 : bitsN x 25 7 = x / 33554432 % 128 := rfl
  have e1 : bitsN x 7 5 = x / 128 % 32 := rfl
  rw [e0, e1,
    or_mid64 (a := (x / 33554432 % 128) * 32) (b := (x / 128 % 32)) 0 5 (0) ((x / 33554432 % 128) * 1) (x / 128 % 32) (by omega) (by omega) (by omega) (by omega) (by omega) (by omega) (by omega) (by omega) (by omega)]
theorem read5 (x : Int) : bits .or .i64 (bits .or .i64 (bits .or .i64 (bitsN x 31 1 * 4096) (bitsN x 25 6 * 32)) (bitsN x 8 4 * 2)) (bitsN x 7 1 * 2048) = (x / 2147483648 % 2) * 4096 + (x / 33554432 % 64) * 32 + (x / 256 % 16) * 2 + (x / 128 % 2) * 2048 := by
  have e0 : bitsN x 31 1 = x / 2147483648 % 2 := rfl
  have e1 : bitsN x 25 6 = x / 33554432 % 64 := rfl
  have e2 : bitsN x 8 4 = x / 256 % 16 := rfl
  have e3 : bitsN x 7 1 = x / 128 % 2 := rfl
  rw [e0, e1, e2, e3,
    or_mid64 (a := (x / 2147483648 % 2) * 4096) (b := (x / 33554432 % 64) * 32) 5 6 (0) ((x / 2147483648 % 2) * 2) (x / 33554432 % 64) (by omega) (by omega) (by omega) (by omega) (by omega) (by omega) (by omega) (by omega) (by omega),
    or_mid64 (a := (x / 2147483648 % 2) * 4096 + (x / 33554432 % 64) * 32) (b := (x / 256 % 16) * 2) 1 4 (0) ((x / 2147483648 % 2) * 128 + (x / 33554432 % 64) * 1) (x / 256 % 16) (by omega) (by omega) (by omega) (by omega) (by omega) (by omega) (by omega) (by omega) (by omega),
    or_mid64 (a := (x / 2147483648 % 2) * 4096 + (x / 33554432 % 64) * 32 + (x / 256 % 16) * 2) (b := (x / 128 % 2) * 2048) 11 1 ((x / 33554432 % 64) * 32 + (x / 256 % 16) * 2) ((x / 2147483648 % 2) * 1) (x / 128 % 2) (by omega) (by omega) (by omega) (by omega) (by omega) (by omega) (by omega) (by omega) (by omega)]
theorem read7 (x : Int) : bits .or .i64 (bits .or .i64 (bits .or .i64 (bitsN x 31 1 * 1048576) (bitsN x 21 10 * 2)) (bitsN x 20 1 * 2048)) (bitsN x 12 8 * 4096) = (x / 2147483648 % 2) * 1048576 + (x / 2097152 % 1024) * 2 + (x / 1048576 % 2) * 2048 + (x / 4096 % 256) * 4096 := by
  have e0 : bitsN x 31 1 = x / 2147483648 % 2 := rfl
  have e1 : bitsN x 21 10 = x / 2097152 % 1024 := rfl
  have e2 : bitsN x 20 1 = x / 1048576 % 2 := rfl
  have e3 : bitsN x 12 8 = x / 4096 % 256 := rfl
  rw [e0, e1, e2, e3,
    or_mid64 (a := (x / 2147483648 % 2) * 1048576) (b := (x / 2097152 % 1024) * 2) 1 10 (0) ((x / 2147483648 % 2) * 512) (x / 2097152 % 1024) (by omega) (by omega) (by omega) (by omega) (by omega) (by omega) (by omega) (by omega) (by omega),
    or_mid64 (a := (x / 2147483648 % 2) * 1048576 + (x / 2097152 % 1024) * 2) (b := (x / 1048576 % 2) * 2048) 11 1 ((x / 2097152 % 1024) * 2) ((x / 2147483648 % 2) * 256) (x / 1048576 % 2) (by omega) (by omega) (by omega) (by omega) (by omega) (by omega) (by omega) (by omega) (by omega),
    or_mid64 (a := (x / 2147483648 % 2) * 1048576 + (x / 2097152 % 1024) * 2 + (x / 1048576 % 2) * 2048) (b := (x / 4096 % 256) * 4096) 12 8 ((x / 2097152 % 1024) * 2 + (x / 1048576 % 2) * 2048) ((x / 2147483648 % 2) * 1) (x / 4096 % 256) (by omega) (by omega) (by omega) (by omega) (by omega) (by omega) (by omega) (by omega) (by omega)]
end Go.Proofs.YtbnmhhbncggjkaaGreatDoor
