import Derived.Test.YtbcjiicaekfjlaaChecked
import Derived.Test.YtbcjiicaekfjlaaDX
import Derived.KernelRfl
import Derived.Test.YtbcjiicaekfjlaaLtimes1
namespace Go.D.Ytbcjiicaekfjlaa
open Go.Proofs
set_option linter.unusedVariables false
set_option linter.unusedSimpArgs false
set_option maxRecDepth 100000
noncomputable section
theorem zero_1 (v : Int) (h0 : 0 ≤ v) (h1 : v < 4294967296) : word_Zero v 1 = v % 2 := by
  have e : word_Zero v 1 = (IntKind.wrap .u32 (v * 2147483648)).fdiv 2147483648 := rfl
  rw [e, IntKind.wrap_u32, Int.fdiv_eq_ediv_of_nonneg _ (by decide)]
  omega
theorem sign_1 (v : Int) (h0 : 0 ≤ v) (h1 : v < 4294967296) : word_Sign v 1 = if v % 2 < 1 then v % 2 else v % 2 + 4294967294 := by
  have e : word_Sign v 1 = IntKind.wrap .u32 ((IntKind.wrap .i32 (IntKind.wrap .u32 (v * 2147483648))).fdiv 2147483648) := rfl
  rw [e, IntKind.wrap_u32, IntKind.wrap_u32, IntKind.wrap_i32, Int.fdiv_eq_ediv_of_nonneg _ (by decide)]
  split <;> omega
theorem zero_2 (v : Int) (h0 : 0 ≤ v) (h1 : v < 4294967296) : word_Zero v 2 = v % 4 := by
  have e : word_Zero v 2 = (IntKind.wrap .u32 (v * 1073741824)).fdiv 1073741824 := rfl
  rw [e, IntKind.wrap_u32, Int.fdiv_eq_ediv_of_nonneg _ (by decide)]
  omega
theorem sign_2 (v : Int) (h0 : 0 ≤ v) (h1 : v < 4294967296) : word_Sign v 2 = if v % 4 < 2 then v % 4 else v % 4 + 4294967292 := by
  have e : word_Sign v 2 = IntKind.wrap .u32 ((IntKind.wrap .i32 (IntKind.wrap .u32 (v * 1073741824))).fdiv 1073741824) := rfl
  rw [e, IntKind.wrap_u32, IntKind.wrap_u32, IntKind.wrap_i32, Int.fdiv_eq_ediv_of_nonneg _ (by decide)]
  split <;> omega
theorem zero_3 (v : Int) (h0 : 0 ≤ v) (h1 : v < 4294967296) : word_Zero v 3 = v % 8 := by
  have e : word_Zero v 3 = (IntKind.wrap .u32 (v * 536870912)).fdiv 536870912 := rfl
  rw [e, IntKind.wrap_u32, Int.fdiv_eq_ediv_of_nonneg _ (by decide)]
  omega
theorem sign_3 (v : Int) (h0 : 0 ≤ v) (h1 : v < 4294967296) : word_Sign v 3 = if v % 8 < 4 then v % 8 else v % 8 + 4294967288 := by
  have e : word_Sign v 3 = IntKind.wrap .u32 ((IntKind.wrap .i32 (IntKind.wrap .u32 (v * 536870912))).fdiv 536870912) := rfl
  rw [e, IntKind.wrap_u32, IntKind.wrap_u32, IntKind.wrap_i32, Int.fdiv_eq_ediv_of_nonneg _ (by decide)]
  split <;> omega
theorem zero_4 (v : Int) (h0 : 0 ≤ v) (h1 : v < 4294967296) : word_Zero v 4 = v % 16 := by
  have e : word_Zero v 4 = (IntKind.wrap .u32 (v * 268435456)).fdiv 268435456 := rfl
  rw [e, IntKind.wrap_u32, Int.fdiv_eq_ediv_of_nonneg _ (by decide)]
  omega
theorem sign_4 (v : Int) (h0 : 0 ≤ v) (h1 : v < 4294967296) : word_Sign v 4 = if v % 16 < 8 then v % 16 else v % 16 + 4294967280 := by
  have e : word_Sign v 4 = IntKind.wrap .u32 ((IntKind.wrap .i32 (IntKind.wrap .u32 (v * 268435456))).fdiv 268435456) := rfl
  rw [e, IntKind.wrap_u32, IntKind.wrap_u32, IntKind.wrap_i32, Int.fdiv_eq_ediv_of_nonneg _ (by decide)]
  split <;> omega
theorem zero_5 (v : Int) (h0 : 0 ≤ v) (h1 : v < 4294967296) : word_Zero v 5 = v % 32 := by
  have e : word_Zero v 5 = (IntKind.wrap .u32 (v * 134217728)).fdiv 134217728 := rfl
  rw [e, IntKind.wrap_u32, Int.fdiv_eq_ediv_of_nonneg _ (by decide)]
  omega
theorem sign_5 (v : Int) (h0 : 0 ≤ v) (h1 : v < 4294967296) : word_Sign v 5 = if v % 32 < 16 then v % 32 else v % 32 + 4294967264 := by
  have e : word_Sign v 5 = IntKind.wrap .u32 ((IntKind.wrap .i32 (IntKind.wrap .u32 (v * 134217728))).fdiv 134217728) := rfl
  rw [e, IntKind.wrap_u32, IntKind.wrap_u32, IntKind.wrap_i32, Int.fdiv_eq_ediv_of_nonneg _ (by decide)]
  split <;> omega
theorem zero_6 (v : Int) (h0 : 0 ≤ v) (h1 : v < 4294967296) : word_Zero v 6 = v % 64 := by
  have e : word_Zero v 6 = (IntKind.wrap .u32 (v * 67108864)).fdiv 67108864 := rfl
  rw [e, IntKind.wrap_u32, Int.fdiv_eq_ediv_of_nonneg _ (by decide)]
  omega
theorem sign_6 (v : Int) (h0 : 0 ≤ v) (h1 : v < 4294967296) : word_Sign v 6 = if v % 64 < 32 then v % 64 else v % 64 + 4294967232 := by
  have e : word_Sign v 6 = IntKind.wrap .u32 ((IntKind.wrap .i32 (IntKind.wrap .u32 (v * 67108864))).fdiv 67108864) := rfl
  rw [e, IntKind.wrap_u32, IntKind.wrap_u32, IntKind.wrap_i32, Int.fdiv_eq_ediv_of_nonneg _ (by decide)]
  split <;> omega
theorem zero_7 (v : Int) (h0 : 0 ≤ v) (h1 : v < 4294967296) : word_Zero v 7 = v % 128 := by
  have e : word_Zero v 7 = (IntKind.wrap .u32 (v * 33554432)).fdiv 33554432 := rfl
  rw [e, IntKind.wrap_u32, Int.fdiv_eq_ediv_of_nonneg _ (by decide)]
  omega
theorem sign_7 (v : Int) (h0 : 0 ≤ v) (h1 : v < 4294967296) : word_Sign v 7 = if v % 128 < 64 then v % 128 else v % 128 + 4294967168 := by
  have e : word_Sign v 7 = IntKind.wrap .u32 ((IntKind.wrap .i32 (IntKind.wrap .u32 (v * 33554432))).fdiv 33554432) := rfl
  rw [e, IntKind.wrap_u32, IntKind.wrap_u32, IntKind.wrap_i32, Int.fdiv_eq_ediv_of_nonneg _ (by decide)]
  split <;> omega
theorem zero_8 (v : Int) (h0 : 0 ≤ v) (h1 : v < 4294967296) : word_Zero v 8 = v % 256 := by
  have e : word_Zero v 8 = (IntKind.wrap .u32 (v * 16777216)).fdiv 16777216 := rfl
  rw [e, IntKind.wrap_u32, Int.fdiv_eq_ediv_of_nonneg _ (by decide)]
  omega
theorem sign_8 (v : Int) (h0 : 0 ≤ v) (h1 : v < 4294967296) : word_Sign v 8 = if v % 256 < 128 then v % 256 else v % 256 + 4294967040 := by
  have e : word_Sign v 8 = IntKind.wrap .u32 ((IntKind.wrap .i32 (IntKind.wrap .u32 (v * 16777216))).fdiv 16777216) := rfl
  rw [e, IntKind.wrap_u32, IntKind.wrap_u32, IntKind.wrap_i32, Int.fdiv_eq_ediv_of_nonneg _ (by decide)]
  split <;> omega
theorem zero_9 (v : Int) (h0 : 0 ≤ v) (h1 : v < 4294967296) : word_Zero v 9 = v % 512 := by
  have e : word_Zero v 9 = (IntKind.wrap .u32 (v * 8388608)).fdiv 8388608 := rfl
  rw [e, IntKind.wrap_u32, Int.fdiv_eq_ediv_of_nonneg _ (by decide)]
  omega
theorem sign_9 (v : Int) (h0 : 0 ≤ v) (h1 : v < 4294967296) : word_Sign v 9 = if v % 512 < 256 then v % 512 else v % 512 + 4294966784 := by
  have e : word_Sign v 9 = IntKind.wrap .u32 ((IntKind.wrap .i32 (IntKind.wrap .u32 (v * 8388608))).fdiv 8388608) := rfl
  rw [e, IntKind.wrap_u32, IntKind.wrap_u32, IntKind.wrap_i32, Int.fdiv_eq_ediv_of_nonneg _ (by decide)]
  split <;> omega
theorem zero_10 (v : Int) (h0 : 0 ≤ v) (h1 : v < 4294967296) : word_Zero v 10 = v % 1024 := by
  have e : word_Zero v 10 = (IntKind.wrap .u32 (v * 4194304)).fdiv 4194304 := rfl
  rw [e, IntKind.wrap_u32, Int.fdiv_eq_ediv_of_nonneg _ (by decide)]
  omega
theorem sign_10 (v : Int) (h0 : 0 ≤ v) (h1 : v < 4294967296) : word_Sign v 10 = if v % 1024 < 512 then v % 1024 else v % 1024 + 4294966272 := by
  have e : word_Sign v 10 = IntKind.wrap .u32 ((IntKind.wrap .i32 (IntKind.wrap .u32 (v * 4194304))).fdiv 4194304) := rfl
  rw [e, IntKind.wrap_u32, IntKind.wrap_u32, IntKind.wrap_i32, Int.fdiv_eq_ediv_of_nonneg _ (by decide)]
  split <;> omega
theorem zero_11 (v : Int) (h0 : 0 ≤ v) (h1 : v < 4294967296) : word_Zero v 11 = v % 2048 := by
  have e : word_Zero v 11 = (IntKind.wrap .u32 (v * 2097152)).fdiv 2097152 := rfl
  rw [e, IntKind.wrap_u32, Int.fdiv_eq_ediv_of_nonneg _ (by decide)]
  omega
theorem sign_11 (v : Int) (h0 : 0 ≤ v) (h1 : v < 4294967296) : word_Sign v 11 = if v % 2048 < 1024 then v % 2048 else v % 2048 + 4294965248 := by
  have e : word_Sign v 11 = IntKind.wrap .u32 ((IntKind.wrap .i32 (IntKind.wrap .u32 (v * 2097152))).fdiv 2097152) := rfl
  rw [e, IntKind.wrap_u32, IntKind.wrap_u32, IntKind.wrap_i32, Int.fdiv_eq_ediv_of_nonneg _ (by decide)]
  split <;> omega
theorem zero_12 (v : Int) (h0 : 0 ≤ v) (h1 : v < 4294967296) : word_Zero v 12 = v % 4096 := by
  have e : word_Zero v 12 = (IntKind.wrap .u32 (v * 1048576)).fdiv 1048576 := rfl
  rw [e, IntKind.wrap_u32, Int.fdiv_eq_ediv_of_nonneg _ (by decide)]
  omega
theorem sign_12 (v : Int) (h0 : 0 ≤ v) (h1 : v < 4294967296) : word_Sign v 12 = if v % 4096 < 2048 then v % 4096 else v % 4096 + 4294963200 := by
  have e : word_Sign v 12 = IntKind.wrap .u32 ((IntKind.wrap .i32 (IntKind.wrap .u32 (v * 1048576))).fdiv 1048576) := rfl
  rw [e, IntKind.wrap_u32, IntKind.wrap_u32, IntKind.wrap_i32, Int.fdiv_eq_ediv_of_nonneg _ (by decide)]
  split <;> omega
theorem zero_13 (v : Int) (h0 : 0 ≤ v) (h1 : v < 4294967296) : word_Zero v 13 = v % 8192 := by
  have e : word_Zero v 13 = (IntKind.wrap .u32 (v * 524288)).fdiv 524288 := rfl
  rw [e, IntKind.wrap_u32, Int.fdiv_eq_ediv_of_nonneg _ (by decide)]
  omega
theorem sign_13 (v : Int) (h0 : 0 ≤ v) (h1 : v < 4294967296) : word_Sign v 13 = if v % 8192 < 4096 then v % 8192 else v % 8192 + 4294959104 := by
  have e : word_Sign v 13 = IntKind.wrap .u32 ((IntKind.wrap .i32 (IntKind.wrap .u32 (v * 524288))).fdiv 524288) := rfl
  rw [e, IntKind.wrap_u32, IntKind.wrap_u32, IntKind.wrap_i32, Int.fdiv_eq_ediv_of_nonneg _ (by decide)]
  split <;> omega
theorem zero_14 (v : Int) (h0 : 0 ≤ v) (h1 : v < 4294967296) : word_Zero v 14 = v % 16384 := by
  have e : word_Zero v 14 = (IntKind.wrap .u32 (v * 262144)).fdiv 262144 := rfl
  rw [e, IntKind.wrap_u32, Int.fdiv_eq_ediv_of_nonneg _ (by decide)]
  omega
theorem sign_14 (v : Int) (h0 : 0 ≤ v) (h1 : v < 4294967296) : word_Sign v 14 = if v % 16384 < 8192 then v % 16384 else v % 16384 + 4294950912 := by
  have e : word_Sign v 14 = IntKind.wrap .u32 ((IntKind.wrap .i32 (IntKind.wrap .u32 (v * 262144))).fdiv 262144) := rfl
  rw [e, IntKind.wrap_u32, IntKind.wrap_u32, IntKind.wrap_i32, Int.fdiv_eq_ediv_of_nonneg _ (by decide)]
  split <;> omega
theorem zero_15 (v : Int) (h0 : 0 ≤ v) (h1 : v < 4294967296) : word_Zero v 15 = v % 32768 := by
  have e : word_Zero v 15 = (IntKind.wrap .u32 (v * 131072)).fdiv 131072 := rfl
  rw [e, IntKind.wrap_u32, Int.fdiv_eq_ediv_of_nonneg _ (by decide)]
  omega
theorem sign_15 (v : Int) (h0 : 0 ≤ v) (h1 : v < 4294967296) : word_Sign v 15 = if v % 32768 < 16384 then v % 32768 else v % 32768 + 4294934528 := by
  have e : word_Sign v 15 = IntKind.wrap .u32 ((IntKind.wrap .i32 (IntKind.wrap .u32 (v * 131072))).fdiv 131072) := rfl
  rw [e, IntKind.wrap_u32, IntKind.wrap_u32, IntKind.wrap_i32, Int.fdiv_eq_ediv_of_nonneg _ (by decide)]
  split <;> omega
theorem zero_16 (v : Int) (h0 : 0 ≤ v) (h1 : v < 4294967296) : word_Zero v 16 = v % 65536 := by
  have e : word_Zero v 16 = (IntKind.wrap .u32 (v * 65536)).fdiv 65536 := rfl
  rw [e, IntKind.wrap_u32, Int.fdiv_eq_ediv_of_nonneg _ (by decide)]
  omega
theorem sign_16 (v : Int) (h0 : 0 ≤ v) (h1 : v < 4294967296) : word_Sign v 16 = if v % 65536 < 32768 then v % 65536 else v % 65536 + 4294901760 := by
  have e : word_Sign v 16 = IntKind.wrap .u32 ((IntKind.wrap .i32 (IntKind.wrap .u32 (v * 65536))).fdiv 65536) := rfl
  rw [e, IntKind.wrap_u32, IntKind.wrap_u32, IntKind.wrap_i32, Int.fdiv_eq_ediv_of_nonneg _ (by decide)]
  split <;> omega
theorem zero_17 (v : Int) (h0 : 0 ≤ v) (h1 : v < 4294967296) : word_Zero v 17 = v % 131072 := by
  have e : word_Zero v 17 = (IntKind.wrap .u32 (v * 32768)).fdiv 32768 := rfl
  rw [e, IntKind.wrap_u32, Int.fdiv_eq_ediv_of_nonneg _ (by decide)]
  omega
theorem sign_17 (v : Int) (h0 : 0 ≤ v) (h1 : v < 4294967296) : word_Sign v 17 = if v % 131072 < 65536 then v % 131072 else v % 131072 + 4294836224 := by
  have e : word_Sign v 17 = IntKind.wrap .u32 ((IntKind.wrap .i32 (IntKind.wrap .u32 (v * 32768))).fdiv 32768) := rfl
  rw [e, IntKind.wrap_u32, IntKind.wrap_u32, IntKind.wrap_i32, Int.fdiv_eq_ediv_of_nonneg _ (by decide)]
  split <;> omega
theorem zero_18 (v : Int) (h0 : 0 ≤ v) (h1 : v < 4294967296) : word_Zero v 18 = v % 262144 := by
  have e : word_Zero v 18 = (IntKind.wrap .u32 (v * 16384)).fdiv 16384 := rfl
  rw [e, IntKind.wrap_u32, Int.fdiv_eq_ediv_of_nonneg _ (by decide)]
  omega
theorem sign_18 (v : Int) (h0 : 0 ≤ v) (h1 : v < 4294967296) : word_Sign v 18 = if v % 262144 < 131072 then v % 262144 else v % 262144 + 4294705152 := by
  have e : word_Sign v 18 = IntKind.wrap .u32 ((IntKind.wrap .i32 (IntKind.wrap .u32 (v * 16384))).fdiv 16384) := rfl
  rw [e, IntKind.wrap_u32, IntKind.wrap_u32, IntKind.wrap_i32, Int.fdiv_eq_ediv_of_nonneg _ (by decide)]
  split <;> omega
theorem zero_19 (v : Int) (h0 : 0 ≤ v) (h1 : v < 4294967296) : word_Zero v 19 = v % 524288 := by
  have e : word_Zero v 19 = (IntKind.wrap .u32 (v * 8192)).fdiv 8192 := rfl
  rw [e, IntKind.wrap_u32, Int.fdiv_eq_ediv_of_nonneg _ (by decide)]
  omega
theorem sign_19 (v : Int) (h0 : 0 ≤ v) (h1 : v < 4294967296) : word_Sign v 19 = if v % 524288 < 262144 then v % 524288 else v % 524288 + 4294443008 := by
  have e : word_Sign v 19 = IntKind.wrap .u32 ((IntKind.wrap .i32 (IntKind.wrap .u32 (v * 8192))).fdiv 8192) := rfl
  rw [e, IntKind.wrap_u32, IntKind.wrap_u32, IntKind.wrap_i32, Int.fdiv_eq_ediv_of_nonneg _ (by decide)]
  split <;> omega
theorem zero_20 (v : Int) (h0 : 0 ≤ v) (h1 : v < 4294967296) : word_Zero v 20 = v % 1048576 := by
  have e : word_Zero v 20 = (IntKind.wrap .u32 (v * 4096)).fdiv 4096 := rfl
  rw [e, IntKind.wrap_u32, Int.fdiv_eq_ediv_of_nonneg _ (by decide)]
  omega
theorem sign_20 (v : Int) (h0 : 0 ≤ v) (h1 : v < 4294967296) : word_Sign v 20 = if v % 1048576 < 524288 then v % 1048576 else v % 1048576 + 4293918720 := by
  have e : word_Sign v 20 = IntKind.wrap .u32 ((IntKind.wrap .i32 (IntKind.wrap .u32 (v * 4096))).fdiv 4096) := rfl
  rw [e, IntKind.wrap_u32, IntKind.wrap_u32, IntKind.wrap_i32, Int.fdiv_eq_ediv_of_nonneg _ (by decide)]
  split <;> omega
theorem zero_21 (v : Int) (h0 : 0 ≤ v) (h1 : v < 4294967296) : word_Zero v 21 = v % 2097152 := by
  have e : word_Zero v 21 = (IntKind.wrap .u32 (v * 2048)).fdiv 2048 := rfl
  rw [e, IntKind.wrap_u32, Int.fdiv_eq_ediv_of_nonneg _ (by decide)]
  omega
theorem sign_21 (v : Int) (h0 : 0 ≤ v) (h1 : v < 4294967296) : word_Sign v 21 = if v % 2097152 < 1048576 then v % 2097152 else v % 2097152 + 4292870144 := by
  have e : word_Sign v 21 = IntKind.wrap .u32 ((IntKind.wrap .i32 (IntKind.wrap .u32 (v * 2048))).fdiv 2048) := rfl
  rw [e, IntKind.wrap_u32, IntKind.wrap_u32, IntKind.wrap_i32, Int.fdiv_eq_ediv_of_nonneg _ (by decide)]
  split <;> omega
theorem zero_22 (v : Int) (h0 : 0 ≤ v) (h1 : v < 4294967296) : word_Zero v 22 = v % 4194304 := by
  have e : word_Zero v 22 = (IntKind.wrap .u32 (v * 1024)).fdiv 1024 := rfl
  rw [e, IntKind.wrap_u32, Int.fdiv_eq_ediv_of_nonneg _ (by decide)]
  omega
theorem sign_22 (v : Int) (h0 : 0 ≤ v) (h1 : v < 4294967296) : word_Sign v 22 = if v % 4194304 < 2097152 then v % 4194304 else v % 4194304 + 4290772992 := by
  have e : word_Sign v 22 = IntKind.wrap .u32 ((IntKind.wrap .i32 (IntKind.wrap .u32 (v * 1024))).fdiv 1024) := rfl
  rw [e, IntKind.wrap_u32, IntKind.wrap_u32, IntKind.wrap_i32, Int.fdiv_eq_ediv_of_nonneg _ (by decide)]
  split <;> omega
theorem zero_23 (v : Int) (h0 : 0 ≤ v) (h1 : v < 4294967296) : word_Zero v 23 = v % 8388608 := by
  have e : word_Zero v 23 = (IntKind.wrap .u32 (v * 512)).fdiv 512 := rfl
  rw [e, IntKind.wrap_u32, Int.fdiv_eq_ediv_of_nonneg _ (by decide)]
  omega
theorem sign_23 (v : Int) (h0 : 0 ≤ v) (h1 : v < 4294967296) : word_Sign v 23 = if v % 8388608 < 4194304 then v % 8388608 else v % 8388608 + 4286578688 := by
  have e : word_Sign v 23 = IntKind.wrap .u32 ((IntKind.wrap .i32 (IntKind.wrap .u32 (v * 512))).fdiv 512) := rfl
  rw [e, IntKind.wrap_u32, IntKind.wrap_u32, IntKind.wrap_i32, Int.fdiv_eq_ediv_of_nonneg _ (by decide)]
  split <;> omega
theorem zero_24 (v : Int) (h0 : 0 ≤ v) (h1 : v < 4294967296) : word_Zero v 24 = v % 16777216 := by
  have e : word_Zero v 24 = (IntKind.wrap .u32 (v * 256)).fdiv 256 := rfl
  rw [e, IntKind.wrap_u32, Int.fdiv_eq_ediv_of_nonneg _ (by decide)]
  omega
theorem sign_24 (v : Int) (h0 : 0 ≤ v) (h1 : v < 4294967296) : word_Sign v 24 = if v % 16777216 < 8388608 then v % 16777216 else v % 16777216 + 4278190080 := by
  have e : word_Sign v 24 = IntKind.wrap .u32 ((IntKind.wrap .i32 (IntKind.wrap .u32 (v * 256))).fdiv 256) := rfl
  rw [e, IntKind.wrap_u32, IntKind.wrap_u32, IntKind.wrap_i32, Int.fdiv_eq_ediv_of_nonneg _ (by decide)]
  split <;> omega
theorem zero_25 (v : Int) (h0 : 0 ≤ v) (h1 : v < 4294967296) : word_Zero v 25 = v % 33554432 := by
  have e : word_Zero v 25 = (IntKind.wrap .u32 (v * 128)).fdiv 128 := rfl
  rw [e, IntKind.wrap_u32, Int.fdiv_eq_ediv_of_nonneg _ (by decide)]
  omega
theorem sign_25 (v : Int) (h0 : 0 ≤ v) (h1 : v < 4294967296) : word_Sign v 25 = if v % 33554432 < 16777216 then v % 33554432 else v % 33554432 + 4261412864 := by
  have e : word_Sign v 25 = IntKind.wrap .u32 ((IntKind.wrap .i32 (IntKind.wrap .u32 (v * 128))).fdiv 128) := rfl
  rw [e, IntKind.wrap_u32, IntKind.wrap_u32, IntKind.wrap_i32, Int.fdiv_eq_ediv_of_nonneg _ (by decide)]
  split <;> omega
theorem zero_26 (v : Int) (h0 : 0 ≤ v) (h1 : v < 4294967296) : word_Zero v 26 = v % 67108864 := by
  have e : word_Zero v 26 = (IntKind.wrap .u32 (v * 64)).fdiv 64 := rfl
  rw [e, IntKind.wrap_u32, Int.fdiv_eq_ediv_of_nonneg _ (by decide)]
  omega
theorem sign_26 (v : Int) (h0 : 0 ≤ v) (h1 : v < 4294967296) : word_Sign v 26 = if v % 67108864 < 33554432 then v % 67108864 else v % 67108864 + 4227858432 := by
  have e : word_Sign v 26 = IntKind.wrap .u32 ((IntKind.wrap .i32 (IntKind.wrap .u32 (v * 64))).fdiv 64) := rfl
  rw [e, IntKind.wrap_u32, IntKind.wrap_u32, IntKind.wrap_i32, Int.fdiv_eq_ediv_of_nonneg _ (by decide)]
  split <;> omega
theorem zero_27 (v : Int) (h0 : 0 ≤ v) (h1 : v < 4294967296) : word_Zero v 27 = v % 134217728 := by
  have e : word_Zero v 27 = (IntKind.wrap .u32 (v * 32)).fdiv 32 := rfl
  rw [e, IntKind.wrap_u32, Int.fdiv_eq_ediv_of_nonneg _ (by decide)]
  omega
theorem sign_27 (v : Int) (h0 : 0 ≤ v) (h1 : v < 4294967296) : word_Sign v 27 = if v % 134217728 < 67108864 then v % 134217728 else v % 134217728 + 4160749568 := by
  have e : word_Sign v 27 = IntKind.wrap .u32 ((IntKind.wrap .i32 (IntKind.wrap .u32 (v * 32))).fdiv 32) := rfl
  rw [e, IntKind.wrap_u32, IntKind.wrap_u32, IntKind.wrap_i32, Int.fdiv_eq_ediv_of_nonneg _ (by decide)]
  split <;> omega
theorem zero_28 (v : Int) (h0 : 0 ≤ v) (h1 : v < 4294967296) : word_Zero v 28 = v % 268435456 := by
  have e : word_Zero v 28 = (IntKind.wrap .u32 (v * 16)).fdiv 16 := rfl
  rw [e, IntKind.wrap_u32, Int.fdiv_eq_ediv_of_nonneg _ (by decide)]
  omega
theorem sign_28 (v : Int) (h0 : 0 ≤ v) (h1 : v < 4294967296) : word_Sign v 28 = if v % 268435456 < 134217728 then v % 268435456 else v % 268435456 + 4026531840 := by
  have e : word_Sign v 28 = IntKind.wrap .u32 ((IntKind.wrap .i32 (IntKind.wrap .u32 (v * 16))).fdiv 16) := rfl
  rw [e, IntKind.wrap_u32, IntKind.wrap_u32, IntKind.wrap_i32, Int.fdiv_eq_ediv_of_nonneg _ (by decide)]
  split <;> omega
theorem zero_29 (v : Int) (h0 : 0 ≤ v) (h1 : v < 4294967296) : word_Zero v 29 = v % 536870912 := by
  have e : word_Zero v 29 = (IntKind.wrap .u32 (v * 8)).fdiv 8 := rfl
  rw [e, IntKind.wrap_u32, Int.fdiv_eq_ediv_of_nonneg _ (by decide)]
  omega
theorem sign_29 (v : Int) (h0 : 0 ≤ v) (h1 : v < 4294967296) : word_Sign v 29 = if v % 536870912 < 268435456 then v % 536870912 else v % 536870912 + 3758096384 := by
  have e : word_Sign v 29 = IntKind.wrap .u32 ((IntKind.wrap .i32 (IntKind.wrap .u32 (v * 8))).fdiv 8) := rfl
  rw [e, IntKind.wrap_u32, IntKind.wrap_u32, IntKind.wrap_i32, Int.fdiv_eq_ediv_of_nonneg _ (by decide)]
  split <;> omega
theorem zero_30 (v : Int) (h0 : 0 ≤ v) (h1 : v < 4294967296) : word_Zero v 30 = v % 1073741824 := by
  have e : word_Zero v 30 = (IntKind.wrap .u32 (v * 4)).fdiv 4 := rfl
  rw [e, IntKind.wrap_u32, Int.fdiv_eq_ediv_of_nonneg _ (by decide)]
  omega
theorem sign_30 (v : Int) (h0 : 0 ≤ v) (h1 : v < 4294967296) : word_Sign v 30 = if v % 1073741824 < 536870912 then v % 1073741824 else v % 1073741824 + 3221225472 := by
  have e : word_Sign v 30 = IntKind.wrap .u32 ((IntKind.wrap .i32 (IntKind.wrap .u32 (v * 4))).fdiv 4) := rfl
  rw [e, IntKind.wrap_u32, IntKind.wrap_u32, IntKind.wrap_i32, Int.fdiv_eq_ediv_of_nonneg _ (by decide)]
  split <;> omega
theorem zero_31 (v : Int) (h0 : 0 ≤ v) (h1 : v < 4294967296) : word_Zero v 31 = v % 2147483648 := by
  have e : word_Zero v 31 = (IntKind.wrap .u32 (v * 2)).fdiv 2 := rfl
  rw [e, IntKind.wrap_u32, Int.fdiv_eq_ediv_of_nonneg _ (by decide)]
  omega
theorem sign_31 (v : Int) (h0 : 0 ≤ v) (h1 : v < 4294967296) : word_Sign v 31 = if v % 2147483648 < 1073741824 then v % 2147483648 else v % 2147483648 + 2147483648 := by
  have e : word_Sign v 31 = IntKind.wrap .u32 ((IntKind.wrap .i32 (IntKind.wrap .u32 (v * 2))).fdiv 2) := rfl
  rw [e, IntKind.wrap_u32, IntKind.wrap_u32, IntKind.wrap_i32, Int.fdiv_eq_ediv_of_nonneg _ (by decide)]
  split <;> omega
theorem zero_32 (v : Int) (h0 : 0 ≤ v) (h1 : v < 4294967296) : word_Zero v 32 = v % 4294967296 := by
  have e : word_Zero v 32 = (IntKind.wrap .u32 (v * 1)).fdiv 1 := rfl
  rw [e, IntKind.wrap_u32, Int.fdiv_eq_ediv_of_nonneg _ (by decide)]
  omega
theorem sign_32 (v : Int) (h0 : 0 ≤ v) (h1 : v < 4294967296) : word_Sign v 32 = if v % 4294967296 < 2147483648 then v % 4294967296 else v % 4294967296 + 0 := by
  have e : word_Sign v 32 = IntKind.wrap .u32 ((IntKind.wrap .i32 (IntKind.wrap .u32 (v * 1))).fdiv 1) := rfl
  rw [e, IntKind.wrap_u32, IntKind.wrap_u32, IntKind.wrap_i32, Int.fdiv_eq_ediv_of_nonneg _ (by decide)]
  split <;> omega
theorem and_low (x : Int) (k : Nat) (hk : k ≤ 32) (h0 : 0 ≤ x) (h1 : x < 4294967296) : bitop .and .u64 (IntKind.wrap .u64 x) (((2 ^ k - 1 : Nat)) : Int) = ((x.toNat % 2 ^ k : Nat) : Int) := by
  have hp : 2 ^ k ≤ 2 ^ 32 := Nat.pow_le_pow_right (by decide) hk
  have hw : IntKind.wrap .u64 x = x := by rw [IntKind.wrap_u64]; omega
  rw [hw]
  have h : (BitVec.ofInt 64 x &&& BitVec.ofInt 64 (((2 ^ k - 1 : Nat)) : Int)).toNat = x.toNat % 2 ^ k := by
    rw [BitVec.toNat_and, BitVec.toNat_ofInt, BitVec.ofInt_natCast, BitVec.toNat_ofNat, Nat.mod_eq_of_lt (by omega : 2 ^ k - 1 < 2 ^ 64), show (x % ((2 ^ 64 : Nat) : Int)).toNat = x.toNat by omega]
    exact Nat.and_two_pow_sub_one_eq_mod _ k
  change IntKind.wrap .u64 ((BitVec.ofInt 64 x &&& BitVec.ofInt 64 (((2 ^ k - 1 : Nat)) : Int)).toNat : Int) = _
  rw [h, IntKind.wrap_u64]
  have : x.toNat % 2 ^ k ≤ x.toNat := Nat.mod_le _ _
  omega
theorem or_low (a z k : Nat) (hz : z < 2 ^ k) : (a * 2 ^ k + z) ||| (2 ^ k - 1) = a * 2 ^ k + (2 ^ k - 1) := by
  have hp : 0 < 2 ^ k := Nat.two_pow_pos k
  have e : z ||| (2 ^ k - 1) = 2 ^ k - 1 := by
    apply Nat.eq_of_testBit_eq
    intro i
    rw [Nat.testBit_or, Nat.testBit_two_pow_sub_one]
    by_cases h : i < k
    · simp [h]
    · rw [Nat.testBit_lt_two_pow (Nat.lt_of_lt_of_le hz (Nat.pow_le_pow_right (by decide) (by omega)))]
      simp
  rw [← Nat.shiftLeft_eq, Nat.shiftLeft_add_eq_or_of_lt hz, Nat.or_assoc, e, ← Nat.shiftLeft_add_eq_or_of_lt (by omega)]
theorem or_full (a z k : Nat) (hz : z < 2 ^ k) (hb : a * 2 ^ k + 2 ^ k ≤ 4294967296) : bitop .or .u64 (IntKind.wrap .u64 ((a * 2 ^ k + z : Nat) : Int)) (((2 ^ k - 1 : Nat)) : Int) = ((a * 2 ^ k + (2 ^ k - 1) : Nat) : Int) := by
  have hp : 0 < 2 ^ k := Nat.two_pow_pos k
  have hw : IntKind.wrap .u64 ((a * 2 ^ k + z : Nat) : Int) = ((a * 2 ^ k + z : Nat) : Int) := by rw [IntKind.wrap_u64]; omega
  rw [hw]
  have h : (BitVec.ofInt 64 ((a * 2 ^ k + z : Nat) : Int) ||| BitVec.ofInt 64 (((2 ^ k - 1 : Nat)) : Int)).toNat = a * 2 ^ k + (2 ^ k - 1) := by
    rw [BitVec.toNat_or, BitVec.ofInt_natCast, BitVec.ofInt_natCast, BitVec.toNat_ofNat, BitVec.toNat_ofNat, Nat.mod_eq_of_lt (by omega), Nat.mod_eq_of_lt (by omega)]
    exact or_low a z k hz
  change IntKind.wrap .u64 ((BitVec.ofInt 64 ((a * 2 ^ k + z : Nat) : Int) ||| BitVec.ofInt 64 (((2 ^ k - 1 : Nat)) : Int)).toNat : Int) = _
  rw [h, IntKind.wrap_u64]
  omega
def SignFacts (v k : Int) : Prop :=
  bitop .and .u64 (IntKind.wrap .u64 v) (IntKind.wrap .u64 (shl .u64 1 k - 1)) = IntKind.wrap .u64 (word_Zero v k) ∧ bitop .and .u64 (IntKind.wrap .u64 (word_Sign v k)) (IntKind.wrap .u64 (shl .u64 1 k - 1)) = IntKind.wrap .u64 (word_Zero v k) ∧ word_Sign (word_Sign v k) k = word_Sign v k ∧ word_Zero (word_Zero v k) k = word_Zero v k ∧
  (word_Sign v k = word_Zero v k ∧ (bitop .and .u32 (shr .u32 v (IntKind.wrap .i64 (k - 1))) 1 == 1) = false ∨
   (bitop .and .u32 (shr .u32 v (IntKind.wrap .i64 (k - 1))) 1 == 1) = true ∧ bitop .or .u64 (IntKind.wrap .u64 (word_Sign v k)) (IntKind.wrap .u64 (shl .u64 1 k - 1)) = 4294967295 ∧ (k = 32 ∨ shr .u32 (word_Sign v k) k = IntKind.wrap .u32 (shl .u32 1 (IntKind.wrap .i64 (32 - k)) - 1)))
theorem bit_one (x : Int) (h0 : 0 ≤ x) (h1 : x < 4294967296) : bitop .and .u32 x 1 = x % 2 := by
  have h : (BitVec.ofInt 32 x &&& BitVec.ofInt 32 1).toNat = x.toNat % 2 := by
    rw [BitVec.toNat_and, BitVec.toNat_ofInt, BitVec.toNat_ofInt, show (x % ((2 ^ 32 : Nat) : Int)).toNat = x.toNat by omega]
    exact Nat.and_two_pow_sub_one_eq_mod _ 1
  change IntKind.wrap .u32 ((BitVec.ofInt 32 x &&& BitVec.ofInt 32 1).toNat : Int) = _
  rw [h, IntKind.wrap_u32]
  omega
theorem sf_1 (v : Int) (h0 : 0 ≤ v) (h1 : v < 4294967296) : SignFacts v 1 := by
  have hz := zero_1 v h0 h1
  have hs := sign_1 v h0 h1
  have r : 0 ≤ v % 2 ∧ v % 2 < 2 := by omega
  have sr : 0 ≤ word_Sign v 1 ∧ word_Sign v 1 < 4294967296 ∧ word_Sign v 1 % 2 = v % 2 := by rw [hs]; split <;> omega
  have a1 : bitop .and .u64 (IntKind.wrap .u64 v) 1 = ((v.toNat % 2 ^ 1 : Nat) : Int) := and_low v 1 (by decide) h0 h1
  have a2 : bitop .and .u64 (IntKind.wrap .u64 (word_Sign v 1)) 1 = (((word_Sign v 1).toNat % 2 ^ 1 : Nat) : Int) := and_low _ 1 (by decide) sr.1 sr.2.1
  have zw : IntKind.wrap .u64 (v % 2) = v % 2 := by rw [IntKind.wrap_u64]; omega
  have b1 : bitop .and .u32 (shr .u32 v 0) 1 = v / 1 % 2 := by
    have e : shr .u32 v 0 = v / 1 := shr_u32 (y := 0) (by decide)
    rw [e]
    exact bit_one _ (by omega) (by omega)
  have zz := zero_1 (v % 2) (by omega) (by omega)
  have ss := sign_1 (word_Sign v 1) sr.1 sr.2.1
  have up : IntKind.wrap .u64 (shl .u64 1 1 - 1) = 1 := rfl
  have k1 : IntKind.wrap .i64 (1 - 1) = 0 := rfl
  unfold SignFacts
  rw [up, k1, hz, zw, a1, a2, zz, ss, sr.2.2, b1]
  refine ⟨by omega, by omega, hs.symm, by omega, ?_⟩
  rw [hs]
  by_cases hh : v % 2 < 1
  · refine .inl ⟨by rw [if_pos hh], ?_⟩
    simp only [beq_eq_false_iff_ne, ne_eq]
    omega
  · refine .inr ⟨?_, ?_, ?_⟩
    · simp only [beq_iff_eq]
      omega
    · rw [if_neg hh]
      have o : bitop .or .u64 (IntKind.wrap .u64 ((2147483647 * 2 ^ 1 + (v % 2).toNat : Nat) : Int)) 1 = ((2147483647 * 2 ^ 1 + (2 ^ 1 - 1) : Nat) : Int) := or_full 2147483647 (v % 2).toNat 1 (by omega) (by decide)
      rw [show v % 2 + 4294967294 = ((2147483647 * 2 ^ 1 + (v % 2).toNat : Nat) : Int) by omega, o]
      rfl
    · refine .inr ?_
      rw [if_neg hh]
      have e2 : shr .u32 (v % 2 + 4294967294) 1 = (v % 2 + 4294967294) / 2 := shr_u32 (y := 1) (by decide)
      rw [e2, show IntKind.wrap .u32 (shl .u32 1 (IntKind.wrap .i64 (32 - 1)) - 1) = 2147483647 from rfl]
      omega
theorem sf_2 (v : Int) (h0 : 0 ≤ v) (h1 : v < 4294967296) : SignFacts v 2 := by
  have hz := zero_2 v h0 h1
  have hs := sign_2 v h0 h1
  have r : 0 ≤ v % 4 ∧ v % 4 < 4 := by omega
  have sr : 0 ≤ word_Sign v 2 ∧ word_Sign v 2 < 4294967296 ∧ word_Sign v 2 % 4 = v % 4 := by rw [hs]; split <;> omega
  have a1 : bitop .and .u64 (IntKind.wrap .u64 v) 3 = ((v.toNat % 2 ^ 2 : Nat) : Int) := and_low v 2 (by decide) h0 h1
  have a2 : bitop .and .u64 (IntKind.wrap .u64 (word_Sign v 2)) 3 = (((word_Sign v 2).toNat % 2 ^ 2 : Nat) : Int) := and_low _ 2 (by decide) sr.1 sr.2.1
  have zw : IntKind.wrap .u64 (v % 4) = v % 4 := by rw [IntKind.wrap_u64]; omega
  have b1 : bitop .and .u32 (shr .u32 v 1) 1 = v / 2 % 2 := by
    have e : shr .u32 v 1 = v / 2 := shr_u32 (y := 1) (by decide)
    rw [e]
    exact bit_one _ (by omega) (by omega)
  have zz := zero_2 (v % 4) (by omega) (by omega)
  have ss := sign_2 (word_Sign v 2) sr.1 sr.2.1
  have up : IntKind.wrap .u64 (shl .u64 1 2 - 1) = 3 := rfl
  have k1 : IntKind.wrap .i64 (2 - 1) = 1 := rfl
  unfold SignFacts
  rw [up, k1, hz, zw, a1, a2, zz, ss, sr.2.2, b1]
  refine ⟨by omega, by omega, hs.symm, by omega, ?_⟩
  rw [hs]
  by_cases hh : v % 4 < 2
  · refine .inl ⟨by rw [if_pos hh], ?_⟩
    simp only [beq_eq_false_iff_ne, ne_eq]
    omega
  · refine .inr ⟨?_, ?_, ?_⟩
    · simp only [beq_iff_eq]
      omega
    · rw [if_neg hh]
      have o : bitop .or .u64 (IntKind.wrap .u64 ((1073741823 * 2 ^ 2 + (v % 4).toNat : Nat) : Int)) 3 = ((1073741823 * 2 ^ 2 + (2 ^ 2 - 1) : Nat) : Int) := or_full 1073741823 (v % 4).toNat 2 (by omega) (by decide)
      rw [show v % 4 + 4294967292 = ((1073741823 * 2 ^ 2 + (v % 4).toNat : Nat) : Int) by omega, o]
      rfl
    · refine .inr ?_
      rw [if_neg hh]
      have e2 : shr .u32 (v % 4 + 4294967292) 2 = (v % 4 + 4294967292) / 4 := shr_u32 (y := 2) (by decide)
      rw [e2, show IntKind.wrap .u32 (shl .u32 1 (IntKind.wrap .i64 (32 - 2)) - 1) = 1073741823 from rfl]
      omega
theorem sf_3 (v : Int) (h0 : 0 ≤ v) (h1 : v < 4294967296) : SignFacts v 3 := by
  have hz := zero_3 v h0 h1
  have hs := sign_3 v h0 h1
  have r : 0 ≤ v % 8 ∧ v % 8 < 8 := by omega
  have sr : 0 ≤ word_Sign v 3 ∧ word_Sign v 3 < 4294967296 ∧ word_Sign v 3 % 8 = v % 8 := by rw [hs]; split <;> omega
  have a1 : bitop .and .u64 (IntKind.wrap .u64 v) 7 = ((v.toNat % 2 ^ 3 : Nat) : Int) := and_low v 3 (by decide) h0 h1
  have a2 : bitop .and .u64 (IntKind.wrap .u64 (word_Sign v 3)) 7 = (((word_Sign v 3).toNat % 2 ^ 3 : Nat) : Int) := and_low _ 3 (by decide) sr.1 sr.2.1
  have zw : IntKind.wrap .u64 (v % 8) = v % 8 := by rw [IntKind.wrap_u64]; omega
  have b1 : bitop .and .u32 (shr .u32 v 2) 1 = v / 4 % 2 := by
    have e : shr .u32 v 2 = v / 4 := shr_u32 (y := 2) (by decide)
    rw [e]
    exact bit_one _ (by omega) (by omega)
  have zz := zero_3 (v % 8) (by omega) (by omega)
  have ss := sign_3 (word_Sign v 3) sr.1 sr.2.1
  have up : IntKind.wrap .u64 (shl .u64 1 3 - 1) = 7 := rfl
  have k1 : IntKind.wrap .i64 (3 - 1) = 2 := rfl
  unfold SignFacts
  rw [up, k1, hz, zw, a1, a2, zz, ss, sr.2.2, b1]
  refine ⟨by omega, by omega, hs.symm, by omega, ?_⟩
  rw [hs]
  by_cases hh : v % 8 < 4
  · refine .inl ⟨by rw [if_pos hh], ?_⟩
    simp only [beq_eq_false_iff_ne, ne_eq]
    omega
  · refine .inr ⟨?_, ?_, ?_⟩
    · simp only [beq_iff_eq]
      omega
    · rw [if_neg hh]
      have o : bitop .or .u64 (IntKind.wrap .u64 ((536870911 * 2 ^ 3 + (v % 8).toNat : Nat) : Int)) 7 = ((536870911 * 2 ^ 3 + (2 ^ 3 - 1) : Nat) : Int) := or_full 536870911 (v % 8).toNat 3 (by omega) (by decide)
      rw [show v % 8 + 4294967288 = ((536870911 * 2 ^ 3 + (v % 8).toNat : Nat) : Int) by omega, o]
      rfl
    · refine .inr ?_
      rw [if_neg hh]
      have e2 : shr .u32 (v % 8 + 4294967288) 3 = (v % 8 + 4294967288) / 8 := shr_u32 (y := 3) (by decide)
      rw [e2, show IntKind.wrap .u32 (shl .u32 1 (IntKind.wrap .i64 (32 - 3)) - 1) = 536870911 from rfl]
      omega
theorem sf_4 (v : Int) (h0 : 0 ≤ v) (h1 : v < 4294967296) : SignFacts v 4 := by
  have hz := zero_4 v h0 h1
  have hs := sign_4 v h0 h1
  have r : 0 ≤ v % 16 ∧ v % 16 < 16 := by omega
  have sr : 0 ≤ word_Sign v 4 ∧ word_Sign v 4 < 4294967296 ∧ word_Sign v 4 % 16 = v % 16 := by rw [hs]; split <;> omega
  have a1 : bitop .and .u64 (IntKind.wrap .u64 v) 15 = ((v.toNat % 2 ^ 4 : Nat) : Int) := and_low v 4 (by decide) h0 h1
  have a2 : bitop .and .u64 (IntKind.wrap .u64 (word_Sign v 4)) 15 = (((word_Sign v 4).toNat % 2 ^ 4 : Nat) : Int) := and_low _ 4 (by decide) sr.1 sr.2.1
  have zw : IntKind.wrap .u64 (v % 16) = v % 16 := by rw [IntKind.wrap_u64]; omega
  have b1 : bitop .and .u32 (shr .u32 v 3) 1 = v / 8 % 2 := by
    have e : shr .u32 v 3 = v / 8 := shr_u32 (y := 3) (by decide)
    rw [e]
    exact bit_one _ (by omega) (by omega)
  have zz := zero_4 (v % 16) (by omega) (by omega)
  have ss := sign_4 (word_Sign v 4) sr.1 sr.2.1
  have up : IntKind.wrap .u64 (shl .u64 1 4 - 1) = 15 := rfl
  have k1 : IntKind.wrap .i64 (4 - 1) = 3 := rfl
  unfold SignFacts
  rw [up, k1, hz, zw, a1, a2, zz, ss, sr.2.2, b1]
  refine ⟨by omega, by omega, hs.symm, by omega, ?_⟩
  rw [hs]
  by_cases hh : v % 16 < 8
  · refine .inl ⟨by rw [if_pos hh], ?_⟩
    simp only [beq_eq_false_iff_ne, ne_eq]
    omega
  · refine .inr ⟨?_, ?_, ?_⟩
    · simp only [beq_iff_eq]
      omega
    · rw [if_neg hh]
      have o : bitop .or .u64 (IntKind.wrap .u64 ((268435455 * 2 ^ 4 + (v % 16).toNat : Nat) : Int)) 15 = ((268435455 * 2 ^ 4 + (2 ^ 4 - 1) : Nat) : Int) := or_full 268435455 (v % 16).toNat 4 (by omega) (by decide)
      rw [show v % 16 + 4294967280 = ((268435455 * 2 ^ 4 + (v % 16).toNat : Nat) : Int) by omega, o]
      rfl
    · refine .inr ?_
      rw [if_neg hh]
      have e2 : shr .u32 (v % 16 + 4294967280) 4 = (v % 16 + 4294967280) / 16 := shr_u32 (y := 4) (by decide)
      rw [e2, show IntKind.wrap .u32 (shl .u32 1 (IntKind.wrap .i64 (32 - 4)) - 1) = 268435455 from rfl]
      omega
theorem sf_5 (v : Int) (h0 : 0 ≤ v) (h1 : v < 4294967296) : SignFacts v 5 := by
  have hz := zero_5 v h0 h1
  have hs := sign_5 v h0 h1
  have r : 0 ≤ v % 32 ∧ v % 32 < 32 := by omega
  have sr : 0 ≤ word_Sign v 5 ∧ word_Sign v 5 < 4294967296 ∧ word_Sign v 5 % 32 = v % 32 := by rw [hs]; split <;> omega
  have a1 : bitop .and .u64 (IntKind.wrap .u64 v) 31 = ((v.toNat % 2 ^ 5 : Nat) : Int) := and_low v 5 (by decide) h0 h1
  have a2 : bitop .and .u64 (IntKind.wrap .u64 (word_Sign v 5)) 31 = (((word_Sign v 5).toNat % 2 ^ 5 : Nat) : Int) := and_low _ 5 (by decide) sr.1 sr.2.1
  have zw : IntKind.wrap .u64 (v % 32) = v % 32 := by rw [IntKind.wrap_u64]; omega
  have b1 : bitop .and .u32 (shr .u32 v 4) 1 = v / 16 % 2 := by
    have e : shr .u32 v 4 = v / 16 := shr_u32 (y := 4) (by decide)
    rw [e]
    exact bit_one _ (by omega) (by omega)
  have zz := zero_5 (v % 32) (by omega) (by omega)
  have ss := sign_5 (word_Sign v 5) sr.1 sr.2.1
  have up : IntKind.wrap .u64 (shl .u64 1 5 - 1) = 31 := rfl
  have k1 : IntKind.wrap .i64 (5 - 1) = 4 := rfl
  unfold SignFacts
  rw [up, k1, hz, zw, a1, a2, zz, ss, sr.2.2, b1]
  refine ⟨by omega, by omega, hs.symm, by omega, ?_⟩
  rw [hs]
  by_cases hh : v % 32 < 16
  · refine .inl ⟨by rw [if_pos hh], ?_⟩
    simp only [beq_eq_false_iff_ne, ne_eq]
    omega
  · refine .inr ⟨?_, ?_, ?_⟩
    · simp only [beq_iff_eq]
      omega
    · rw [if_neg hh]
      have o : bitop .or .u64 (IntKind.wrap .u64 ((134217727 * 2 ^ 5 + (v % 32).toNat : Nat) : Int)) 31 = ((134217727 * 2 ^ 5 + (2 ^ 5 - 1) : Nat) : Int) := or_full 134217727 (v % 32).toNat 5 (by omega) (by decide)
      rw [show v % 32 + 4294967264 = ((134217727 * 2 ^ 5 + (v % 32).toNat : Nat) : Int) by omega, o]
      rfl
    · refine .inr ?_
      rw [if_neg hh]
      have e2 : shr .u32 (v % 32 + 4294967264) 5 = (v % 32 + 4294967264) / 32 := shr_u32 (y := 5) (by decide)
      rw [e2, show IntKind.wrap .u32 (shl .u32 1 (IntKind.wrap .i64 (32 - 5)) - 1) = 134217727 from rfl]
      omega
theorem sf_6 (v : Int) (h0 : 0 ≤ v) (h1 : v < 4294967296) : SignFacts v 6 := by
  have hz := zero_6 v h0 h1
  have hs := sign_6 v h0 h1
  have r : 0 ≤ v % 64 ∧ v % 64 < 64 := by omega
  have sr : 0 ≤ word_Sign v 6 ∧ word_Sign v 6 < 4294967296 ∧ word_Sign v 6 % 64 = v % 64 := by rw [hs]; split <;> omega
  have a1 : bitop .and .u64 (IntKind.wrap .u64 v) 63 = ((v.toNat % 2 ^ 6 : Nat) : Int) := and_low v 6 (by decide) h0 h1
  have a2 : bitop .and .u64 (IntKind.wrap .u64 (word_Sign v 6)) 63 = (((word_Sign v 6).toNat % 2 ^ 6 : Nat) : Int) := and_low _ 6 (by decide) sr.1 sr.2.1
  have zw : IntKind.wrap .u64 (v % 64) = v % 64 := by rw [IntKind.wrap_u64]; omega
  have b1 : bitop .and .u32 (shr .u32 v 5) 1 = v / 32 % 2 := by
    have e : shr .u32 v 5 = v / 32 := shr_u32 (y := 5) (by decide)
    rw [e]
    exact bit_one _ (by omega) (by omega)
  have zz := zero_6 (v % 64) (by omega) (by omega)
  have ss := sign_6 (word_Sign v 6) sr.1 sr.2.1
  have up : IntKind.wrap .u64 (shl .u64 1 6 - 1) = 63 := rfl
  have k1 : IntKind.wrap .i64 (6 - 1) = 5 := rfl
  unfold SignFacts
  rw [up, k1, hz, zw, a1, a2, zz, ss, sr.2.2, b1]
  refine ⟨by omega, by omega, hs.symm, by omega, ?_⟩
  rw [hs]
  by_cases hh : v % 64 < 32
  · refine .inl ⟨by rw [if_pos hh], ?_⟩
    simp only [beq_eq_false_iff_ne, ne_eq]
    omega
  · refine .inr ⟨?_, ?_, ?_⟩
    · simp only [beq_iff_eq]
      omega
    · rw [if_neg hh]
      have o : bitop .or .u64 (IntKind.wrap .u64 ((67108863 * 2 ^ 6 + (v % 64).toNat : Nat) : Int)) 63 = ((67108863 * 2 ^ 6 + (2 ^ 6 - 1) : Nat) : Int) := or_full 67108863 (v % 64).toNat 6 (by omega) (by decide)
      rw [show v % 64 + 4294967232 = ((67108863 * 2 ^ 6 + (v % 64).toNat : Nat) : Int) by omega, o]
      rfl
    · refine .inr ?_
      rw [if_neg hh]
      have e2 : shr .u32 (v % 64 + 4294967232) 6 = (v % 64 + 4294967232) / 64 := shr_u32 (y := 6) (by decide)
      rw [e2, show IntKind.wrap .u32 (shl .u32 1 (IntKind.wrap .i64 (32 - 6)) - 1) = 67108863 from rfl]
      omega
theorem sf_7 (v : Int) (h0 : 0 ≤ v) (h1 : v < 4294967296) : SignFacts v 7 := by
  have hz := zero_7 v h0 h1
  have hs := sign_7 v h0 h1
  have r : 0 ≤ v % 128 ∧ v % 128 < 128 := by omega
  have sr : 0 ≤ word_Sign v 7 ∧ word_Sign v 7 < 4294967296 ∧ word_Sign v 7 % 128 = v % 128 := by rw [hs]; split <;> omega
  have a1 : bitop .and .u64 (IntKind.wrap .u64 v) 127 = ((v.toNat % 2 ^ 7 : Nat) : Int) := and_low v 7 (by decide) h0 h1
  have a2 : bitop .and .u64 (IntKind.wrap .u64 (word_Sign v 7)) 127 = (((word_Sign v 7).toNat % 2 ^ 7 : Nat) : Int) := and_low _ 7 (by decide) sr.1 sr.2.1
  have zw : IntKind.wrap .u64 (v % 128) = v % 128 := by rw [IntKind.wrap_u64]; omega
  have b1 : bitop .and .u32 (shr .u32 v 6) 1 = v / 64 % 2 := by
    have e : shr .u32 v 6 = v / 64 := shr_u32 (y := 6) (by decide)
    rw [e]
    exact bit_one _ (by omega) (by omega)
  have zz := zero_7 (v % 128) (by omega) (by omega)
  have ss := sign_7 (word_Sign v 7) sr.1 sr.2.1
  have up : IntKind.wrap .u64 (shl .u64 1 7 - 1) = 127 := rfl
  have k1 : IntKind.wrap .i64 (7 - 1) = 6 := rfl
  unfold SignFacts
  rw [up, k1, hz, zw, a1, a2, zz, ss, sr.2.2, b1]
  refine ⟨by omega, by omega, hs.symm, by omega, ?_⟩
  rw [hs]
  by_cases hh : v % 128 < 64
  · refine .inl ⟨by rw [if_pos hh], ?_⟩
    simp only [beq_eq_false_iff_ne, ne_eq]
    omega
  · refine .inr ⟨?_, ?_, ?_⟩
    · simp only [beq_iff_eq]
      omega
    · rw [if_neg hh]
      have o : bitop .or .u64 (IntKind.wrap .u64 ((33554431 * 2 ^ 7 + (v % 128).toNat : Nat) : Int)) 127 = ((33554431 * 2 ^ 7 + (2 ^ 7 - 1) : Nat) : Int) := or_full 33554431 (v % 128).toNat 7 (by omega) (by decide)
      rw [show v % 128 + 4294967168 = ((33554431 * 2 ^ 7 + (v % 128).toNat : Nat) : Int) by omega, o]
      rfl
    · refine .inr ?_
      rw [if_neg hh]
      have e2 : shr .u32 (v % 128 + 4294967168) 7 = (v % 128 + 4294967168) / 128 := shr_u32 (y := 7) (by decide)
      rw [e2, show IntKind.wrap .u32 (shl .u32 1 (IntKind.wrap .i64 (32 - 7)) - 1) = 33554431 from rfl]
      omega
theorem sf_8 (v : Int) (h0 : 0 ≤ v) (h1 : v < 4294967296) : SignFacts v 8 := by
  have hz := zero_8 v h0 h1
  have hs := sign_8 v h0 h1
  have r : 0 ≤ v % 256 ∧ v % 256 < 256 := by omega
  have sr : 0 ≤ word_Sign v 8 ∧ word_Sign v 8 < 4294967296 ∧ word_Sign v 8 % 256 = v % 256 := by rw [hs]; split <;> omega
  have a1 : bitop .and .u64 (IntKind.wrap .u64 v) 255 = ((v.toNat % 2 ^ 8 : Nat) : Int) := and_low v 8 (by decide) h0 h1
  have a2 : bitop .and .u64 (IntKind.wrap .u64 (word_Sign v 8)) 255 = (((word_Sign v 8).toNat % 2 ^ 8 : Nat) : Int) := and_low _ 8 (by decide) sr.1 sr.2.1
  have zw : IntKind.wrap .u64 (v % 256) = v % 256 := by rw [IntKind.wrap_u64]; omega
  have b1 : bitop .and .u32 (shr .u32 v 7) 1 = v / 128 % 2 := by
    have e : shr .u32 v 7 = v / 128 := shr_u32 (y := 7) (by decide)
    rw [e]
    exact bit_one _ (by omega) (by omega)
  have zz := zero_8 (v % 256) (by omega) (by omega)
  have ss := sign_8 (word_Sign v 8) sr.1 sr.2.1
  have up : IntKind.wrap .u64 (shl .u64 1 8 - 1) = 255 := rfl
  have k1 : IntKind.wrap .i64 (8 - 1) = 7 := rfl
  unfold SignFacts
  rw [up, k1, hz, zw, a1, a2, zz, ss, sr.2.2, b1]
  refine ⟨by omega, by omega, hs.symm, by omega, ?_⟩
  rw [hs]
  by_cases hh : v % 256 < 128
  · refine .inl ⟨by rw [if_pos hh], ?_⟩
    simp only [beq_eq_false_iff_ne, ne_eq]
    omega
  · refine .inr ⟨?_, ?_, ?_⟩
    · simp only [beq_iff_eq]
      omega
    · rw [if_neg hh]
      have o : bitop .or .u64 (IntKind.wrap .u64 ((16777215 * 2 ^ 8 + (v % 256).toNat : Nat) : Int)) 255 = ((16777215 * 2 ^ 8 + (2 ^ 8 - 1) : Nat) : Int) := or_full 16777215 (v % 256).toNat 8 (by omega) (by decide)
      rw [show v % 256 + 4294967040 = ((16777215 * 2 ^ 8 + (v % 256).toNat : Nat) : Int) by omega, o]
      rfl
    · refine .inr ?_
      rw [if_neg hh]
      have e2 : shr .u32 (v % 256 + 4294967040) 8 = (v % 256 + 4294967040) / 256 := shr_u32 (y := 8) (by decide)
      rw [e2, show IntKind.wrap .u32 (shl .u32 1 (IntKind.wrap .i64 (32 - 8)) - 1) = 16777215 from rfl]
      omega
theorem sf_9 (v : Int) (h0 : 0 ≤ v) (h1 : v < 4294967296) : SignFacts v 9 := by
  have hz := zero_9 v h0 h1
  have hs := sign_9 v h0 h1
  have r : 0 ≤ v % 512 ∧ v % 512 < 512 := by omega
  have sr : 0 ≤ word_Sign v 9 ∧ word_Sign v 9 < 4294967296 ∧ word_Sign v 9 % 512 = v % 512 := by rw [hs]; split <;> omega
  have a1 : bitop .and .u64 (IntKind.wrap .u64 v) 511 = ((v.toNat % 2 ^ 9 : Nat) : Int) := and_low v 9 (by decide) h0 h1
  have a2 : bitop .and .u64 (IntKind.wrap .u64 (word_Sign v 9)) 511 = (((word_Sign v 9).toNat % 2 ^ 9 : Nat) : Int) := and_low _ 9 (by decide) sr.1 sr.2.1
  have zw : IntKind.wrap .u64 (v % 512) = v % 512 := by rw [IntKind.wrap_u64]; omega
  have b1 : bitop .and .u32 (shr .u32 v 8) 1 = v / 256 % 2 := by
    have e : shr .u32 v 8 = v / 256 := shr_u32 (y := 8) (by decide)
    rw [e]
    exact bit_one _ (by omega) (by omega)
  have zz := zero_9 (v % 512) (by omega) (by omega)
  have ss := sign_9 (word_Sign v 9) sr.1 sr.2.1
  have up : IntKind.wrap .u64 (shl .u64 1 9 - 1) = 511 := rfl
  have k1 : IntKind.wrap .i64 (9 - 1) = 8 := rfl
  unfold SignFacts
  rw [up, k1, hz, zw, a1, a2, zz, ss, sr.2.2, b1]
  refine ⟨by omega, by omega, hs.symm, by omega, ?_⟩
  rw [hs]
  by_cases hh : v % 512 < 256
  · refine .inl ⟨by rw [if_pos hh], ?_⟩
    simp only [beq_eq_false_iff_ne, ne_eq]
    omega
  · refine .inr ⟨?_, ?_, ?_⟩
    · simp only [beq_iff_eq]
      omega
    · rw [if_neg hh]
      have o : bitop .or .u64 (IntKind.wrap .u64 ((8388607 * 2 ^ 9 + (v % 512).toNat : Nat) : Int)) 511 = ((8388607 * 2 ^ 9 + (2 ^ 9 - 1) : Nat) : Int) := or_full 8388607 (v % 512).toNat 9 (by omega) (by decide)
      rw [show v % 512 + 4294966784 = ((8388607 * 2 ^ 9 + (v % 512).toNat : Nat) : Int) by omega, o]
      rfl
    · refine .inr ?_
      rw [if_neg hh]
      have e2 : shr .u32 (v % 512 + 4294966784) 9 = (v % 512 + 4294966784) / 512 := shr_u32 (y := 9) (by decide)
      rw [e2, show IntKind.wrap .u32 (shl .u32 1 (IntKind.wrap .i64 (32 - 9)) - 1) = 8388607 from rfl]
      omega
theorem sf_10 (v : Int) (h0 : 0 ≤ v) (h1 : v < 4294967296) : SignFacts v 10 := by
  have hz := zero_10 v h0 h1
  have hs := sign_10 v h0 h1
  have r : 0 ≤ v % 1024 ∧ v % 1024 < 1024 := by omega
  have sr : 0 ≤ word_Sign v 10 ∧ word_Sign v 10 < 4294967296 ∧ word_Sign v 10 % 1024 = v % 1024 := by rw [hs]; split <;> omega
  have a1 : bitop .and .u64 (IntKind.wrap .u64 v) 1023 = ((v.toNat % 2 ^ 10 : Nat) : Int) := and_low v 10 (by decide) h0 h1
  have a2 : bitop .and .u64 (IntKind.wrap .u64 (word_Sign v 10)) 1023 = (((word_Sign v 10).toNat % 2 ^ 10 : Nat) : Int) := and_low _ 10 (by decide) sr.1 sr.2.1
  have zw : IntKind.wrap .u64 (v % 1024) = v % 1024 := by rw [IntKind.wrap_u64]; omega
  have b1 : bitop .and .u32 (shr .u32 v 9) 1 = v / 512 % 2 := by
    have e : shr .u32 v 9 = v / 512 := shr_u32 (y := 9) (by decide)
    rw [e]
    exact bit_one _ (by omega) (by omega)
  have zz := zero_10 (v % 1024) (by omega) (by omega)
  have ss := sign_10 (word_Sign v 10) sr.1 sr.2.1
  have up : IntKind.wrap .u64 (shl .u64 1 10 - 1) = 1023 := rfl
  have k1 : IntKind.wrap .i64 (10 - 1) = 9 := rfl
  unfold SignFacts
  rw [up, k1, hz, zw, a1, a2, zz, ss, sr.2.2, b1]
  refine ⟨by omega, by omega, hs.symm, by omega, ?_⟩
  rw [hs]
  by_cases hh : v % 1024 < 512
  · refine .inl ⟨by rw [if_pos hh], ?_⟩
    simp only [beq_eq_false_iff_ne, ne_eq]
    omega
  · refine .inr ⟨?_, ?_, ?_⟩
    · simp only [beq_iff_eq]
      omega
    · rw [if_neg hh]
      have o : bitop .or .u64 (IntKind.wrap .u64 ((4194303 * 2 ^ 10 + (v % 1024).toNat : Nat) : Int)) 1023 = ((4194303 * 2 ^ 10 + (2 ^ 10 - 1) : Nat) : Int) := or_full 4194303 (v % 1024).toNat 10 (by omega) (by decide)
      rw [show v % 1024 + 4294966272 = ((4194303 * 2 ^ 10 + (v % 1024).toNat : Nat) : Int) by omega, o]
      rfl
    · refine .inr ?_
      rw [if_neg hh]
      have e2 : shr .u32 (v % 1024 + 4294966272) 10 = (v % 1024 + 4294966272) / 1024 := shr_u32 (y := 10) (by decide)
      rw [e2, show IntKind.wrap .u32 (shl .u32 1 (IntKind.wrap .i64 (32 - 10)) - 1) = 4194303 from rfl]
      omega
theorem sf_11 (v : Int) (h0 : 0 ≤ v) (h1 : v < 4294967296) : SignFacts v 11 := by
  have hz := zero_11 v h0 h1
  have hs := sign_11 v h0 h1
  have r : 0 ≤ v % 2048 ∧ v % 2048 < 2048 := by omega
  have sr : 0 ≤ word_Sign v 11 ∧ word_Sign v 11 < 4294967296 ∧ word_Sign v 11 % 2048 = v % 2048 := by rw [hs]; split <;> omega
  have a1 : bitop .and .u64 (IntKind.wrap .u64 v) 2047 = ((v.toNat % 2 ^ 11 : Nat) : Int) := and_low v 11 (by decide) h0 h1
  have a2 : bitop .and .u64 (IntKind.wrap .u64 (word_Sign v 11)) 2047 = (((word_Sign v 11).toNat % 2 ^ 11 : Nat) : Int) := and_low _ 11 (by decide) sr.1 sr.2.1
  have zw : IntKind.wrap .u64 (v % 2048) = v % 2048 := by rw [IntKind.wrap_u64]; omega
  have b1 : bitop .and .u32 (shr .u32 v 10) 1 = v / 1024 % 2 := by
    have e : shr .u32 v 10 = v / 1024 := shr_u32 (y := 10) (by decide)
    rw [e]
    exact bit_one _ (by omega) (by omega)
  have zz := zero_11 (v % 2048) (by omega) (by omega)
  have ss := sign_11 (word_Sign v 11) sr.1 sr.2.1
  have up : IntKind.wrap .u64 (shl .u64 1 11 - 1) = 2047 := rfl
  have k1 : IntKind.wrap .i64 (11 - 1) = 10 := rfl
  unfold SignFacts
  rw [up, k1, hz, zw, a1, a2, zz, ss, sr.2.2, b1]
  refine ⟨by omega, by omega, hs.symm, by omega, ?_⟩
  rw [hs]
  by_cases hh : v % 2048 < 1024
  · refine .inl ⟨by rw [if_pos hh], ?_⟩
    simp only [beq_eq_false_iff_ne, ne_eq]
    omega
  · refine .inr ⟨?_, ?_, ?_⟩
    · simp only [beq_iff_eq]
      omega
    · rw [if_neg hh]
      have o : bitop .or .u64 (IntKind.wrap .u64 ((2097151 * 2 ^ 11 + (v % 2048).toNat : Nat) : Int)) 2047 = ((2097151 * 2 ^ 11 + (2 ^ 11 - 1) : Nat) : Int) := or_full 2097151 (v % 2048).toNat 11 (by omega) (by decide)
      rw [show v % 2048 + 4294965248 = ((2097151 * 2 ^ 11 + (v % 2048).toNat : Nat) : Int) by omega, o]
      rfl
    · refine .inr ?_
      rw [if_neg hh]
      have e2 : shr .u32 (v % 2048 + 4294965248) 11 = (v % 2048 + 4294965248) / 2048 := shr_u32 (y := 11) (by decide)
      rw [e2, show IntKind.wrap .u32 (shl .u32 1 (IntKind.wrap .i64 (32 - 11)) - 1) = 2097151 from rfl]
      omega
theorem sf_12 (v : Int) (h0 : 0 ≤ v) (h1 : v < 4294967296) : SignFacts v 12 := by
  have hz := zero_12 v h0 h1
  have hs := sign_12 v h0 h1
  have r : 0 ≤ v % 4096 ∧ v % 4096 < 4096 := by omega
  have sr : 0 ≤ word_Sign v 12 ∧ word_Sign v 12 < 4294967296 ∧ word_Sign v 12 % 4096 = v % 4096 := by rw [hs]; split <;> omega
  have a1 : bitop .and .u64 (IntKind.wrap .u64 v) 4095 = ((v.toNat % 2 ^ 12 : Nat) : Int) := and_low v 12 (by decide) h0 h1
  have a2 : bitop .and .u64 (IntKind.wrap .u64 (word_Sign v 12)) 4095 = (((word_Sign v 12).toNat % 2 ^ 12 : Nat) : Int) := and_low _ 12 (by decide) sr.1 sr.2.1
  have zw : IntKind.wrap .u64 (v % 4096) = v % 4096 := by rw [IntKind.wrap_u64]; omega
  have b1 : bitop .and .u32 (shr .u32 v 11) 1 = v / 2048 % 2 := by
    have e : shr .u32 v 11 = v / 2048 := shr_u32 (y := 11) (by decide)
    rw [e]
    exact bit_one _ (by omega) (by omega)
  have zz := zero_12 (v % 4096) (by omega) (by omega)
  have ss := sign_12 (word_Sign v 12) sr.1 sr.2.1
  have up : IntKind.wrap .u64 (shl .u64 1 12 - 1) = 4095 := rfl
  have k1 : IntKind.wrap .i64 (12 - 1) = 11 := rfl
  unfold SignFacts
  rw [up, k1, hz, zw, a1, a2, zz, ss, sr.2.2, b1]
  refine ⟨by omega, by omega, hs.symm, by omega, ?_⟩
  rw [hs]
  by_cases hh : v % 4096 < 2048
  · refine .inl ⟨by rw [if_pos hh], ?_⟩
    simp only [beq_eq_false_iff_ne, ne_eq]
    omega
  · refine .inr ⟨?_, ?_, ?_⟩
    · simp only [beq_iff_eq]
      omega
    · rw [if_neg hh]
      have o : bitop .or .u64 (IntKind.wrap .u64 ((1048575 * 2 ^ 12 + (v % 4096).toNat : Nat) : Int)) 4095 = ((1048575 * 2 ^ 12 + (2 ^ 12 - 1) : Nat) : Int) := or_full 1048575 (v % 4096).toNat 12 (by omega) (by decide)
      rw [show v % 4096 + 4294963200 = ((1048575 * 2 ^ 12 + (v % 4096).toNat : Nat) : Int) by omega, o]
      rfl
    · refine .inr ?_
      rw [if_neg hh]
      have e2 : shr .u32 (v % 4096 + 4294963200) 12 = (v % 4096 + 4294963200) / 4096 := shr_u32 (y := 12) (by decide)
      rw [e2, show IntKind.wrap .u32 (shl .u32 1 (IntKind.wrap .i64 (32 - 12)) - 1) = 1048575 from rfl]
      omega
theorem sf_13 (v : Int) (h0 : 0 ≤ v) (h1 : v < 4294967296) : SignFacts v 13 := by
  have hz := zero_13 v h0 h1
  have hs := sign_13 v h0 h1
  have r : 0 ≤ v % 8192 ∧ v % 8192 < 8192 := by omega
  have sr : 0 ≤ word_Sign v 13 ∧ word_Sign v 13 < 4294967296 ∧ word_Sign v 13 % 8192 = v % 8192 := by rw [hs]; split <;> omega
  have a1 : bitop .and .u64 (IntKind.wrap .u64 v) 8191 = ((v.toNat % 2 ^ 13 : Nat) : Int) := and_low v 13 (by decide) h0 h1
  have a2 : bitop .and .u64 (IntKind.wrap .u64 (word_Sign v 13)) 8191 = (((word_Sign v 13).toNat % 2 ^ 13 : Nat) : Int) := and_low _ 13 (by decide) sr.1 sr.2.1
  have zw : IntKind.wrap .u64 (v % 8192) = v % 8192 := by rw [IntKind.wrap_u64]; omega
  have b1 : bitop .and .u32 (shr .u32 v 12) 1 = v / 4096 % 2 := by
    have e : shr .u32 v 12 = v / 4096 := shr_u32 (y := 12) (by decide)
    rw [e]
    exact bit_one _ (by omega) (by omega)
  have zz := zero_13 (v % 8192) (by omega) (by omega)
  have ss := sign_13 (word_Sign v 13) sr.1 sr.2.1
  have up : IntKind.wrap .u64 (shl .u64 1 13 - 1) = 8191 := rfl
  have k1 : IntKind.wrap .i64 (13 - 1) = 12 := rfl
  unfold SignFacts
  rw [up, k1, hz, zw, a1, a2, zz, ss, sr.2.2, b1]
  refine ⟨by omega, by omega, hs.symm, by omega, ?_⟩
  rw [hs]
  by_cases hh : v % 8192 < 4096
  · refine .inl ⟨by rw [if_pos hh], ?_⟩
    simp only [beq_eq_false_iff_ne, ne_eq]
    omega
  · refine .inr ⟨?_, ?_, ?_⟩
    · simp only [beq_iff_eq]
      omega
    · rw [if_neg hh]
      have o : bitop .or .u64 (IntKind.wrap .u64 ((524287 * 2 ^ 13 + (v % 8192).toNat : Nat) : Int)) 8191 = ((524287 * 2 ^ 13 + (2 ^ 13 - 1) : Nat) : Int) := or_full 524287 (v % 8192).toNat 13 (by omega) (by decide)
      rw [show v % 8192 + 4294959104 = ((524287 * 2 ^ 13 + (v % 8192).toNat : Nat) : Int) by omega, o]
      rfl
    · refine .inr ?_
      rw [if_neg hh]
      have e2 : shr .u32 (v % 8192 + 4294959104) 13 = (v % 8192 + 4294959104) / 8192 := shr_u32 (y := 13) (by decide)
      rw [e2, show IntKind.wrap .u32 (shl .u32 1 (IntKind.wrap .i64 (32 - 13)) - 1) = 524287 from rfl]
      omega
theorem sf_14 (v : Int) (h0 : 0 ≤ v) (h1 : v < 4294967296) : SignFacts v 14 := by
  have hz := zero_14 v h0 h1
  have hs := sign_14 v h0 h1
  have r : 0 ≤ v % 16384 ∧ v % 16384 < 16384 := by omega
  have sr : 0 ≤ word_Sign v 14 ∧ word_Sign v 14 < 4294967296 ∧ word_Sign v 14 % 16384 = v % 16384 := by rw [hs]; split <;> omega
  have a1 : bitop .and .u64 (IntKind.wrap .u64 v) 16383 = ((v.toNat % 2 ^ 14 : Nat) : Int) := and_low v 14 (by decide) h0 h1
  have a2 : bitop .and .u64 (IntKind.wrap .u64 (word_Sign v 14)) 16383 = (((word_Sign v 14).toNat % 2 ^ 14 : Nat) : Int) := and_low _ 14 (by decide) sr.1 sr.2.1
  have zw : IntKind.wrap .u64 (v % 16384) = v % 16384 := by rw [IntKind.wrap_u64]; omega
  have b1 : bitop .and .u32 (shr .u32 v 13) 1 = v / 8192 % 2 := by
    have e : shr .u32 v 13 = v / 8192 := shr_u32 (y := 13) (by decide)
    rw [e]
    exact bit_one _ (by omega) (by omega)
  have zz := zero_14 (v % 16384) (by omega) (by omega)
  have ss := sign_14 (word_Sign v 14) sr.1 sr.2.1
  have up : IntKind.wrap .u64 (shl .u64 1 14 - 1) = 16383 := rfl
  have k1 : IntKind.wrap .i64 (14 - 1) = 13 := rfl
  unfold SignFacts
  rw [up, k1, hz, zw, a1, a2, zz, ss, sr.2.2, b1]
  refine ⟨by omega, by omega, hs.symm, by omega, ?_⟩
  rw [hs]
  by_cases hh : v % 16384 < 8192
  · refine .inl ⟨by rw [if_pos hh], ?_⟩
    simp only [beq_eq_false_iff_ne, ne_eq]
    omega
  · refine .inr ⟨?_, ?_, ?_⟩
    · simp only [beq_iff_eq]
      omega
    · rw [if_neg hh]
      have o : bitop .or .u64 (IntKind.wrap .u64 ((262143 * 2 ^ 14 + (v % 16384).toNat : Nat) : Int)) 16383 = ((262143 * 2 ^ 14 + (2 ^ 14 - 1) : Nat) : Int) := or_full 262143 (v % 16384).toNat 14 (by omega) (by decide)
      rw [show v % 16384 + 4294950912 = ((262143 * 2 ^ 14 + (v % 16384).toNat : Nat) : Int) by omega, o]
      rfl
    · refine .inr ?_
      rw [if_neg hh]
      have e2 : shr .u32 (v % 16384 + 4294950912) 14 = (v % 16384 + 4294950912) / 16384 := shr_u32 (y := 14) (by decide)
      rw [e2, show IntKind.wrap .u32 (shl .u32 1 (IntKind.wrap .i64 (32 - 14)) - 1) = 262143 from rfl]
      omega
theorem sf_15 (v : Int) (h0 : 0 ≤ v) (h1 : v < 4294967296) : SignFacts v 15 := by
  have hz := zero_15 v h0 h1
  have hs := sign_15 v h0 h1
  have r : 0 ≤ v % 32768 ∧ v % 32768 < 32768 := by omega
  have sr : 0 ≤ word_Sign v 15 ∧ word_Sign v 15 < 4294967296 ∧ word_Sign v 15 % 32768 = v % 32768 := by rw [hs]; split <;> omega
  have a1 : bitop .and .u64 (IntKind.wrap .u64 v) 32767 = ((v.toNat % 2 ^ 15 : Nat) : Int) := and_low v 15 (by decide) h0 h1
  have a2 : bitop .and .u64 (IntKind.wrap .u64 (word_Sign v 15)) 32767 = (((word_Sign v 15).toNat % 2 ^ 15 : Nat) : Int) := and_low _ 15 (by decide) sr.1 sr.2.1
  have zw : IntKind.wrap .u64 (v % 32768) = v % 32768 := by rw [IntKind.wrap_u64]; omega
  have b1 : bitop .and .u32 (shr .u32 v 14) 1 = v / 16384 % 2 := by
    have e : shr .u32 v 14 = v / 16384 := shr_u32 (y := 14) (by decide)
    rw [e]
    exact bit_one _ (by omega) (by omega)
  have zz := zero_15 (v % 32768) (by omega) (by omega)
  have ss := sign_15 (word_Sign v 15) sr.1 sr.2.1
  have up : IntKind.wrap .u64 (shl .u64 1 15 - 1) = 32767 := rfl
  have k1 : IntKind.wrap .i64 (15 - 1) = 14 := rfl
  unfold SignFacts
  rw [up, k1, hz, zw, a1, a2, zz, ss, sr.2.2, b1]
  refine ⟨by omega, by omega, hs.symm, by omega, ?_⟩
  rw [hs]
  by_cases hh : v % 32768 < 16384
  · refine .inl ⟨by rw [if_pos hh], ?_⟩
    simp only [beq_eq_false_iff_ne, ne_eq]
    omega
  · refine .inr ⟨?_, ?_, ?_⟩
    · simp only [beq_iff_eq]
      omega
    · rw [if_neg hh]
      have o : bitop .or .u64 (IntKind.wrap .u64 ((131071 * 2 ^ 15 + (v % 32768).toNat : Nat) : Int)) 32767 = ((131071 * 2 ^ 15 + (2 ^ 15 - 1) : Nat) : Int) := or_full 131071 (v % 32768).toNat 15 (by omega) (by decide)
      rw [show v % 32768 + 4294934528 = ((131071 * 2 ^ 15 + (v % 32768).toNat : Nat) : Int) by omega, o]
      rfl
    · refine .inr ?_
      rw [if_neg hh]
      have e2 : shr .u32 (v % 32768 + 4294934528) 15 = (v % 32768 + 4294934528) / 32768 := shr_u32 (y := 15) (by decide)
      rw [e2, show IntKind.wrap .u32 (shl .u32 1 (IntKind.wrap .i64 (32 - 15)) - 1) = 131071 from rfl]
      omega
theorem sf_16 (v : Int) (h0 : 0 ≤ v) (h1 : v < 4294967296) : SignFacts v 16 := by
  have hz := zero_16 v h0 h1
  have hs := sign_16 v h0 h1
  have r : 0 ≤ v % 65536 ∧ v % 65536 < 65536 := by omega
  have sr : 0 ≤ word_Sign v 16 ∧ word_Sign v 16 < 4294967296 ∧ word_Sign v 16 % 65536 = v % 65536 := by rw [hs]; split <;> omega
  have a1 : bitop .and .u64 (IntKind.wrap .u64 v) 65535 = ((v.toNat % 2 ^ 16 : Nat) : Int) := and_low v 16 (by decide) h0 h1
  have a2 : bitop .and .u64 (IntKind.wrap .u64 (word_Sign v 16)) 65535 = (((word_Sign v 16).toNat % 2 ^ 16 : Nat) : Int) := and_low _ 16 (by decide) sr.1 sr.2.1
  have zw : IntKind.wrap .u64 (v % 65536) = v % 65536 := by rw [IntKind.wrap_u64]; omega
  have b1 : bitop .and .u32 (shr .u32 v 15) 1 = v / 32768 % 2 := by
    have e : shr .u32 v 15 = v / 32768 := shr_u32 (y := 15) (by decide)
    rw [e]
    exact bit_one _ (by omega) (by omega)
  have zz := zero_16 (v % 65536) (by omega) (by omega)
  have ss := sign_16 (word_Sign v 16) sr.1 sr.2.1
  have up : IntKind.wrap .u64 (shl .u64 1 16 - 1) = 65535 := rfl
  have k1 : IntKind.wrap .i64 (16 - 1) = 15 := rfl
  unfold SignFacts
  rw [up, k1, hz, zw, a1, a2, zz, ss, sr.2.2, b1]
  refine ⟨by omega, by omega, hs.symm, by omega, ?_⟩
  rw [hs]
  by_cases hh : v % 65536 < 32768
  · refine .inl ⟨by rw [if_pos hh], ?_⟩
    simp only [beq_eq_false_iff_ne, ne_eq]
    omega
  · refine .inr ⟨?_, ?_, ?_⟩
    · simp only [beq_iff_eq]
      omega
    · rw [if_neg hh]
      have o : bitop .or .u64 (IntKind.wrap .u64 ((65535 * 2 ^ 16 + (v % 65536).toNat : Nat) : Int)) 65535 = ((65535 * 2 ^ 16 + (2 ^ 16 - 1) : Nat) : Int) := or_full 65535 (v % 65536).toNat 16 (by omega) (by decide)
      rw [show v % 65536 + 4294901760 = ((65535 * 2 ^ 16 + (v % 65536).toNat : Nat) : Int) by omega, o]
      rfl
    · refine .inr ?_
      rw [if_neg hh]
      have e2 : shr .u32 (v % 65536 + 4294901760) 16 = (v % 65536 + 4294901760) / 65536 := shr_u32 (y := 16) (by decide)
      rw [e2, show IntKind.wrap .u32 (shl .u32 1 (IntKind.wrap .i64 (32 - 16)) - 1) = 65535 from rfl]
      omega
theorem sf_17 (v : Int) (h0 : 0 ≤ v) (h1 : v < 4294967296) : SignFacts v 17 := by
  have hz := zero_17 v h0 h1
  have hs := sign_17 v h0 h1
  have r : 0 ≤ v % 131072 ∧ v % 131072 < 131072 := by omega
  have sr : 0 ≤ word_Sign v 17 ∧ word_Sign v 17 < 4294967296 ∧ word_Sign v 17 % 131072 = v % 131072 := by rw [hs]; split <;> omega
  have a1 : bitop .and .u64 (IntKind.wrap .u64 v) 131071 = ((v.toNat % 2 ^ 17 : Nat) : Int) := and_low v 17 (by decide) h0 h1
  have a2 : bitop .and .u64 (IntKind.wrap .u64 (word_Sign v 17)) 131071 = (((word_Sign v 17).toNat % 2 ^ 17 : Nat) : Int) := and_low _ 17 (by decide) sr.1 sr.2.1
  have zw : IntKind.wrap .u64 (v % 131072) = v % 131072 := by rw [IntKind.wrap_u64]; omega
  have b1 : bitop .and .u32 (shr .u32 v 16) 1 = v / 65536 % 2 := by
    have e : shr .u32 v 16 = v / 65536 := shr_u32 (y := 16) (by decide)
    rw [e]
    exact bit_one _ (by omega) (by omega)
  have zz := zero_17 (v % 131072) (by omega) (by omega)
  have ss := sign_17 (word_Sign v 17) sr.1 sr.2.1
  have up : IntKind.wrap .u64 (shl .u64 1 17 - 1) = 131071 := rfl
  have k1 : IntKind.wrap .i64 (17 - 1) = 16 := rfl
  unfold SignFacts
  rw [up, k1, hz, zw, a1, a2, zz, ss, sr.2.2, b1]
  refine ⟨by omega, by omega, hs.symm, by omega, ?_⟩
  rw [hs]
  by_cases hh : v % 131072 < 65536
  · refine .inl ⟨by rw [if_pos hh], ?_⟩
    simp only [beq_eq_false_iff_ne, ne_eq]
    omega
  · refine .inr ⟨?_, ?_, ?_⟩
    · simp only [beq_iff_eq]
      omega
    · rw [if_neg hh]
      have o : bitop .or .u64 (IntKind.wrap .u64 ((32767 * 2 ^ 17 + (v % 131072).toNat : Nat) : Int)) 131071 = ((32767 * 2 ^ 17 + (2 ^ 17 - 1) : Nat) : Int) := or_full 32767 (v % 131072).toNat 17 (by omega) (by decide)
      rw [show v % 131072 + 4294836224 = ((32767 * 2 ^ 17 + (v % 131072).toNat : Nat) : Int) by omega, o]
      rfl
    · refine .inr ?_
      rw [if_neg hh]
      have e2 : shr .u32 (v % 131072 + 4294836224) 17 = (v % 131072 + 4294836224) / 131072 := shr_u32 (y := 17) (by decide)
      rw [e2, show IntKind.wrap .u32 (shl .u32 1 (IntKind.wrap .i64 (32 - 17)) - 1) = 32767 from rfl]
      omega
theorem sf_18 (v : Int) (h0 : 0 ≤ v) (h1 : v < 4294967296) : SignFacts v 18 := by
  have hz := zero_18 v h0 h1
  have hs := sign_18 v h0 h1
  have r : 0 ≤ v % 262144 ∧ v % 262144 < 262144 := by omega
  have sr : 0 ≤ word_Sign v 18 ∧ word_Sign v 18 < 4294967296 ∧ word_Sign v 18 % 262144 = v % 262144 := by rw [hs]; split <;> omega
  have a1 : bitop .and .u64 (IntKind.wrap .u64 v) 262143 = ((v.toNat % 2 ^ 18 : Nat) : Int) := and_low v 18 (by decide) h0 h1
  have a2 : bitop .and .u64 (IntKind.wrap .u64 (word_Sign v 18)) 262143 = (((word_Sign v 18).toNat % 2 ^ 18 : Nat) : Int) := and_low _ 18 (by decide) sr.1 sr.2.1
  have zw : IntKind.wrap .u64 (v % 262144) = v % 262144 := by rw [IntKind.wrap_u64]; omega
  have b1 : bitop .and .u32 (shr .u32 v 17) 1 = v / 131072 % 2 := by
    have e : shr .u32 v 17 = v / 131072 := shr_u32 (y := 17) (by decide)
    rw [e]
    exact bit_one _ (by omega) (by omega)
  have zz := zero_18 (v % 262144) (by omega) (by omega)
  have ss := sign_18 (word_Sign v 18) sr.1 sr.2.1
  have up : IntKind.wrap .u64 (shl .u64 1 18 - 1) = 262143 := rfl
  have k1 : IntKind.wrap .i64 (18 - 1) = 17 := rfl
  unfold SignFacts
  rw [up, k1, hz, zw, a1, a2, zz, ss, sr.2.2, b1]
  refine ⟨by omega, by omega, hs.symm, by omega, ?_⟩
  rw [hs]
  by_cases hh : v % 262144 < 131072
  · refine .inl ⟨by rw [if_pos hh], ?_⟩
    simp only [beq_eq_false_iff_ne, ne_eq]
    omega
  · refine .inr ⟨?_, ?_, ?_⟩
    · simp only [beq_iff_eq]
      omega
    · rw [if_neg hh]
      have o : bitop .or .u64 (IntKind.wrap .u64 ((16383 * 2 ^ 18 + (v % 262144).toNat : Nat) : Int)) 262143 = ((16383 * 2 ^ 18 + (2 ^ 18 - 1) : Nat) : Int) := or_full 16383 (v % 262144).toNat 18 (by omega) (by decide)
      rw [show v % 262144 + 4294705152 = ((16383 * 2 ^ 18 + (v % 262144).toNat : Nat) : Int) by omega, o]
      rfl
    · refine .inr ?_
      rw [if_neg hh]
      have e2 : shr .u32 (v % 262144 + 4294705152) 18 = (v % 262144 + 4294705152) / 262144 := shr_u32 (y := 18) (by decide)
      rw [e2, show IntKind.wrap .u32 (shl .u32 1 (IntKind.wrap .i64 (32 - 18)) - 1) = 16383 from rfl]
      omega
theorem sf_19 (v : Int) (h0 : 0 ≤ v) (h1 : v < 4294967296) : SignFacts v 19 := by
  have hz := zero_19 v h0 h1
  have hs := sign_19 v h0 h1
  have r : 0 ≤ v % 524288 ∧ v % 524288 < 524288 := by omega
  have sr : 0 ≤ word_Sign v 19 ∧ word_Sign v 19 < 4294967296 ∧ word_Sign v 19 % 524288 = v % 524288 := by rw [hs]; split <;> omega
  have a1 : bitop .and .u64 (IntKind.wrap .u64 v) 524287 = ((v.toNat % 2 ^ 19 : Nat) : Int) := and_low v 19 (by decide) h0 h1
  have a2 : bitop .and .u64 (IntKind.wrap .u64 (word_Sign v 19)) 524287 = (((word_Sign v 19).toNat % 2 ^ 19 : Nat) : Int) := and_low _ 19 (by decide) sr.1 sr.2.1
  have zw : IntKind.wrap .u64 (v % 524288) = v % 524288 := by rw [IntKind.wrap_u64]; omega
  have b1 : bitop .and .u32 (shr .u32 v 18) 1 = v / 262144 % 2 := by
    have e : shr .u32 v 18 = v / 262144 := shr_u32 (y := 18) (by decide)
    rw [e]
    exact bit_one _ (by omega) (by omega)
  have zz := zero_19 (v % 524288) (by omega) (by omega)
  have ss := sign_19 (word_Sign v 19) sr.1 sr.2.1
  have up : IntKind.wrap .u64 (shl .u64 1 19 - 1) = 524287 := rfl
  have k1 : IntKind.wrap .i64 (19 - 1) = 18 := rfl
  unfold SignFacts
  rw [up, k1, hz, zw, a1, a2, zz, ss, sr.2.2, b1]
  refine ⟨by omega, by omega, hs.symm, by omega, ?_⟩
  rw [hs]
  by_cases hh : v % 524288 < 262144
  · refine .inl ⟨by rw [if_pos hh], ?_⟩
    simp only [beq_eq_false_iff_ne, ne_eq]
    omega
  · refine .inr ⟨?_, ?_, ?_⟩
    · simp only [beq_iff_eq]
      omega
    · rw [if_neg hh]
      have o : bitop .or .u64 (IntKind.wrap .u64 ((8191 * 2 ^ 19 + (v % 524288).toNat : Nat) : Int)) 524287 = ((8191 * 2 ^ 19 + (2 ^ 19 - 1) : Nat) : Int) := or_full 8191 (v % 524288).toNat 19 (by omega) (by decide)
      rw [show v % 524288 + 4294443008 = ((8191 * 2 ^ 19 + (v % 524288).toNat : Nat) : Int) by omega, o]
      rfl
    · refine .inr ?_
      rw [if_neg hh]
      have e2 : shr .u32 (v % 524288 + 4294443008) 19 = (v % 524288 + 4294443008) / 524288 := shr_u32 (y := 19) (by decide)
      rw [e2, show IntKind.wrap .u32 (shl .u32 1 (IntKind.wrap .i64 (32 - 19)) - 1) = 8191 from rfl]
      omega
theorem sf_20 (v : Int) (h0 : 0 ≤ v) (h1 : v < 4294967296) : SignFacts v 20 := by
  have hz := zero_20 v h0 h1
  have hs := sign_20 v h0 h1
  have r : 0 ≤ v % 1048576 ∧ v % 1048576 < 1048576 := by omega
  have sr : 0 ≤ word_Sign v 20 ∧ word_Sign v 20 < 4294967296 ∧ word_Sign v 20 % 1048576 = v % 1048576 := by rw [hs]; split <;> omega
  have a1 : bitop .and .u64 (IntKind.wrap .u64 v) 1048575 = ((v.toNat % 2 ^ 20 : Nat) : Int) := and_low v 20 (by decide) h0 h1
  have a2 : bitop .and .u64 (IntKind.wrap .u64 (word_Sign v 20)) 1048575 = (((word_Sign v 20).toNat % 2 ^ 20 : Nat) : Int) := and_low _ 20 (by decide) sr.1 sr.2.1
  have zw : IntKind.wrap .u64 (v % 1048576) = v % 1048576 := by rw [IntKind.wrap_u64]; omega
  have b1 : bitop .and .u32 (shr .u32 v 19) 1 = v / 524288 % 2 := by
    have e : shr .u32 v 19 = v / 524288 := shr_u32 (y := 19) (by decide)
    rw [e]
    exact bit_one _ (by omega) (by omega)
  have zz := zero_20 (v % 1048576) (by omega) (by omega)
  have ss := sign_20 (word_Sign v 20) sr.1 sr.2.1
  have up : IntKind.wrap .u64 (shl .u64 1 20 - 1) = 1048575 := rfl
  have k1 : IntKind.wrap .i64 (20 - 1) = 19 := rfl
  unfold SignFacts
  rw [up, k1, hz, zw, a1, a2, zz, ss, sr.2.2, b1]
  refine ⟨by omega, by omega, hs.symm, by omega, ?_⟩
  rw [hs]
  by_cases hh : v % 1048576 < 524288
  · refine .inl ⟨by rw [if_pos hh], ?_⟩
    simp only [beq_eq_false_iff_ne, ne_eq]
    omega
  · refine .inr ⟨?_, ?_, ?_⟩
    · simp only [beq_iff_eq]
      omega
    · rw [if_neg hh]
      have o : bitop .or .u64 (IntKind.wrap .u64 ((4095 * 2 ^ 20 + (v % 1048576).toNat : Nat) : Int)) 1048575 = ((4095 * 2 ^ 20 + (2 ^ 20 - 1) : Nat) : Int) := or_full 4095 (v % 1048576).toNat 20 (by omega) (by decide)
      rw [show v % 1048576 + 4293918720 = ((4095 * 2 ^ 20 + (v % 1048576).toNat : Nat) : Int) by omega, o]
      rfl
    · refine .inr ?_
      rw [if_neg hh]
      have e2 : shr .u32 (v % 1048576 + 4293918720) 20 = (v % 1048576 + 4293918720) / 1048576 := shr_u32 (y := 20) (by decide)
      rw [e2, show IntKind.wrap .u32 (shl .u32 1 (IntKind.wrap .i64 (32 - 20)) - 1) = 4095 from rfl]
      omega
theorem sf_21 (v : Int) (h0 : 0 ≤ v) (h1 : v < 4294967296) : SignFacts v 21 := by
  have hz := zero_21 v h0 h1
  have hs := sign_21 v h0 h1
  have r : 0 ≤ v % 2097152 ∧ v % 2097152 < 2097152 := by omega
  have sr : 0 ≤ word_Sign v 21 ∧ word_Sign v 21 < 4294967296 ∧ word_Sign v 21 % 2097152 = v % 2097152 := by rw [hs]; split <;> omega
  have a1 : bitop .and .u64 (IntKind.wrap .u64 v) 2097151 = ((v.toNat % 2 ^ 21 : Nat) : Int) := and_low v 21 (by decide) h0 h1
  have a2 : bitop .and .u64 (IntKind.wrap .u64 (word_Sign v 21)) 2097151 = (((word_Sign v 21).toNat % 2 ^ 21 : Nat) : Int) := and_low _ 21 (by decide) sr.1 sr.2.1
  have zw : IntKind.wrap .u64 (v % 2097152) = v % 2097152 := by rw [IntKind.wrap_u64]; omega
  have b1 : bitop .and .u32 (shr .u32 v 20) 1 = v / 1048576 % 2 := by
    have e : shr .u32 v 20 = v / 1048576 := shr_u32 (y := 20) (by decide)
    rw [e]
    exact bit_one _ (by omega) (by omega)
  have zz := zero_21 (v % 2097152) (by omega) (by omega)
  have ss := sign_21 (word_Sign v 21) sr.1 sr.2.1
  have up : IntKind.wrap .u64 (shl .u64 1 21 - 1) = 2097151 := rfl
  have k1 : IntKind.wrap .i64 (21 - 1) = 20 := rfl
  unfold SignFacts
  rw [up, k1, hz, zw, a1, a2, zz, ss, sr.2.2, b1]
  refine ⟨by omega, by omega, hs.symm, by omega, ?_⟩
  rw [hs]
  by_cases hh : v % 2097152 < 1048576
  · refine .inl ⟨by rw [if_pos hh], ?_⟩
    simp only [beq_eq_false_iff_ne, ne_eq]
    omega
  · refine .inr ⟨?_, ?_, ?_⟩
    · simp only [beq_iff_eq]
      omega
    · rw [if_neg hh]
      have o : bitop .or .u64 (IntKind.wrap .u64 ((2047 * 2 ^ 21 + (v % 2097152).toNat : Nat) : Int)) 2097151 = ((2047 * 2 ^ 21 + (2 ^ 21 - 1) : Nat) : Int) := or_full 2047 (v % 2097152).toNat 21 (by omega) (by decide)
      rw [show v % 2097152 + 4292870144 = ((2047 * 2 ^ 21 + (v % 2097152).toNat : Nat) : Int) by omega, o]
      rfl
    · refine .inr ?_
      rw [if_neg hh]
      have e2 : shr .u32 (v % 2097152 + 4292870144) 21 = (v % 2097152 + 4292870144) / 2097152 := shr_u32 (y := 21) (by decide)
      rw [e2, show IntKind.wrap .u32 (shl .u32 1 (IntKind.wrap .i64 (32 - 21)) - 1) = 2047 from rfl]
      omega
theorem sf_22 (v : Int) (h0 : 0 ≤ v) (h1 : v < 4294967296) : SignFacts v 22 := by
  have hz := zero_22 v h0 h1
  have hs := sign_22 v h0 h1
  have r : 0 ≤ v % 4194304 ∧ v % 4194304 < 4194304 := by omega
  have sr : 0 ≤ word_Sign v 22 ∧ word_Sign v 22 < 4294967296 ∧ word_Sign v 22 % 4194304 = v % 4194304 := by rw [hs]; split <;> omega
  have a1 : bitop .and .u64 (IntKind.wrap .u64 v) 4194303 = ((v.toNat % 2 ^ 22 : Nat) : Int) := and_low v 22 (by decide) h0 h1
  have a2 : bitop .and .u64 (IntKind.wrap .u64 (word_Sign v 22)) 4194303 = (((word_Sign v 22).toNat % 2 ^ 22 : Nat) : Int) := and_low _ 22 (by decide) sr.1 sr.2.1
  have zw : IntKind.wrap .u64 (v % 4194304) = v % 4194304 := by rw [IntKind.wrap_u64]; omega
  have b1 : bitop .and .u32 (shr .u32 v 21) 1 = v / 2097152 % 2 := by
    have e : shr .u32 v 21 = v / 2097152 := shr_u32 (y := 21) (by decide)
    rw [e]
    exact bit_one _ (by omega) (by omega)
  have zz := zero_22 (v % 4194304) (by omega) (by omega)
  have ss := sign_22 (word_Sign v 22) sr.1 sr.2.1
  have up : IntKind.wrap .u64 (shl .u64 1 22 - 1) = 4194303 := rfl
  have k1 : IntKind.wrap .i64 (22 - 1) = 21 := rfl
  unfold SignFacts
  rw [up, k1, hz, zw, a1, a2, zz, ss, sr.2.2, b1]
  refine ⟨by omega, by omega, hs.symm, by omega, ?_⟩
  rw [hs]
  by_cases hh : v % 4194304 < 2097152
  · refine .inl ⟨by rw [if_pos hh], ?_⟩
    simp only [beq_eq_false_iff_ne, ne_eq]
    omega
  · refine .inr ⟨?_, ?_, ?_⟩
    · simp only [beq_iff_eq]
      omega
    · rw [if_neg hh]
      have o : bitop .or .u64 (IntKind.wrap .u64 ((1023 * 2 ^ 22 + (v % 4194304).toNat : Nat) : Int)) 4194303 = ((1023 * 2 ^ 22 + (2 ^ 22 - 1) : Nat) : Int) := or_full 1023 (v % 4194304).toNat 22 (by omega) (by decide)
      rw [show v % 4194304 + 4290772992 = ((1023 * 2 ^ 22 + (v % 4194304).toNat : Nat) : Int) by omega, o]
      rfl
    · refine .inr ?_
      rw [if_neg hh]
      have e2 : shr .u32 (v % 4194304 + 4290772992) 22 = (v % 4194304 + 4290772992) / 4194304 := shr_u32 (y := 22) (by decide)
      rw [e2, show IntKind.wrap .u32 (shl .u32 1 (IntKind.wrap .i64 (32 - 22)) - 1) = 1023 from rfl]
      omega
theorem sf_23 (v : Int) (h0 : 0 ≤ v) (h1 : v < 4294967296) : SignFacts v 23 := by
  have hz := zero_23 v h0 h1
  have hs := sign_23 v h0 h1
  have r : 0 ≤ v % 8388608 ∧ v % 8388608 < 8388608 := by omega
  have sr : 0 ≤ word_Sign v 23 ∧ word_Sign v 23 < 4294967296 ∧ word_Sign v 23 % 8388608 = v % 8388608 := by rw [hs]; split <;> omega
  have a1 : bitop .and .u64 (IntKind.wrap .u64 v) 8388607 = ((v.toNat % 2 ^ 23 : Nat) : Int) := and_low v 23 (by decide) h0 h1
  have a2 : bitop .and .u64 (IntKind.wrap .u64 (word_Sign v 23)) 8388607 = (((word_Sign v 23).toNat % 2 ^ 23 : Nat) : Int) := and_low _ 23 (by decide) sr.1 sr.2.1
  have zw : IntKind.wrap .u64 (v % 8388608) = v % 8388608 := by rw [IntKind.wrap_u64]; omega
  have b1 : bitop .and .u32 (shr .u32 v 22) 1 = v / 4194304 % 2 := by
    have e : shr .u32 v 22 = v / 4194304 := shr_u32 (y := 22) (by decide)
    rw [e]
    exact bit_one _ (by omega) (by omega)
  have zz := zero_23 (v % 8388608) (by omega) (by omega)
  have ss := sign_23 (word_Sign v 23) sr.1 sr.2.1
  have up : IntKind.wrap .u64 (shl .u64 1 23 - 1) = 8388607 := rfl
  have k1 : IntKind.wrap .i64 (23 - 1) = 22 := rfl
  unfold SignFacts
  rw [up, k1, hz, zw, a1, a2, zz, ss, sr.2.2, b1]
  refine ⟨by omega, by omega, hs.symm, by omega, ?_⟩
  rw [hs]
  by_cases hh : v % 8388608 < 4194304
  · refine .inl ⟨by rw [if_pos hh], ?_⟩
    simp only [beq_eq_false_iff_ne, ne_eq]
    omega
  · refine .inr ⟨?_, ?_, ?_⟩
    · simp only [beq_iff_eq]
      omega
    · rw [if_neg hh]
      have o : bitop .or .u64 (IntKind.wrap .u64 ((511 * 2 ^ 23 + (v % 8388608).toNat : Nat) : Int)) 8388607 = ((511 * 2 ^ 23 + (2 ^ 23 - 1) : Nat) : Int) := or_full 511 (v % 8388608).toNat 23 (by omega) (by decide)
      rw [show v % 8388608 + 4286578688 = ((511 * 2 ^ 23 + (v % 8388608).toNat : Nat) : Int) by omega, o]
      rfl
    · refine .inr ?_
      rw [if_neg hh]
      have e2 : shr .u32 (v % 8388608 + 4286578688) 23 = (v % 8388608 + 4286578688) / 8388608 := shr_u32 (y := 23) (by decide)
      rw [e2, show IntKind.wrap .u32 (shl .u32 1 (IntKind.wrap .i64 (32 - 23)) - 1) = 511 from rfl]
      omega
theorem sf_24 (v : Int) (h0 : 0 ≤ v) (h1 : v < 4294967296) : SignFacts v 24 := by
  have hz := zero_24 v h0 h1
  have hs := sign_24 v h0 h1
  have r : 0 ≤ v % 16777216 ∧ v % 16777216 < 16777216 := by omega
  have sr : 0 ≤ word_Sign v 24 ∧ word_Sign v 24 < 4294967296 ∧ word_Sign v 24 % 16777216 = v % 16777216 := by rw [hs]; split <;> omega
  have a1 : bitop .and .u64 (IntKind.wrap .u64 v) 16777215 = ((v.toNat % 2 ^ 24 : Nat) : Int) := and_low v 24 (by decide) h0 h1
  have a2 : bitop .and .u64 (IntKind.wrap .u64 (word_Sign v 24)) 16777215 = (((word_Sign v 24).toNat % 2 ^ 24 : Nat) : Int) := and_low _ 24 (by decide) sr.1 sr.2.1
  have zw : IntKind.wrap .u64 (v % 16777216) = v % 16777216 := by rw [IntKind.wrap_u64]; omega
  have b1 : bitop .and .u32 (shr .u32 v 23) 1 = v / 8388608 % 2 := by
    have e : shr .u32 v 23 = v / 8388608 := shr_u32 (y := 23) (by decide)
    rw [e]
    exact bit_one _ (by omega) (by omega)
  have zz := zero_24 (v % 16777216) (by omega) (by omega)
  have ss := sign_24 (word_Sign v 24) sr.1 sr.2.1
  have up : IntKind.wrap .u64 (shl .u64 1 24 - 1) = 16777215 := rfl
  have k1 : IntKind.wrap .i64 (24 - 1) = 23 := rfl
  unfold SignFacts
  rw [up, k1, hz, zw, a1, a2, zz, ss, sr.2.2, b1]
  refine ⟨by omega, by omega, hs.symm, by omega, ?_⟩
  rw [hs]
  by_cases hh : v % 16777216 < 8388608
  · refine .inl ⟨by rw [if_pos hh], ?_⟩
    simp only [beq_eq_false_iff_ne, ne_eq]
    omega
  · refine .inr ⟨?_, ?_, ?_⟩
    · simp only [beq_iff_eq]
      omega
    · rw [if_neg hh]
      have o : bitop .or .u64 (IntKind.wrap .u64 ((255 * 2 ^ 24 + (v % 16777216).toNat : Nat) : Int)) 16777215 = ((255 * 2 ^ 24 + (2 ^ 24 - 1) : Nat) : Int) := or_full 255 (v % 16777216).toNat 24 (by omega) (by decide)
      rw [show v % 16777216 + 4278190080 = ((255 * 2 ^ 24 + (v % 16777216).toNat : Nat) : Int) by omega, o]
      rfl
    · refine .inr ?_
      rw [if_neg hh]
      have e2 : shr .u32 (v % 16777216 + 4278190080) 24 = (v % 16777216 + 4278190080) / 16777216 := shr_u32 (y := 24) (by decide)
      rw [e2, show IntKind.wrap .u32 (shl .u32 1 (IntKind.wrap .i64 (32 - 24)) - 1) = 255 from rfl]
      omega
theorem sf_25 (v : Int) (h0 : 0 ≤ v) (h1 : v < 4294967296) : SignFacts v 25 := by
  have hz := zero_25 v h0 h1
  have hs := sign_25 v h0 h1
  have r : 0 ≤ v % 33554432 ∧ v % 33554432 < 33554432 := by omega
  have sr : 0 ≤ word_Sign v 25 ∧ word_Sign v 25 < 4294967296 ∧ word_Sign v 25 % 33554432 = v % 33554432 := by rw [hs]; split <;> omega
  have a1 : bitop .and .u64 (IntKind.wrap .u64 v) 33554431 = ((v.toNat % 2 ^ 25 : Nat) : Int) := and_low v 25 (by decide) h0 h1
  have a2 : bitop .and .u64 (IntKind.wrap .u64 (word_Sign v 25)) 33554431 = (((word_Sign v 25).toNat % 2 ^ 25 : Nat) : Int) := and_low _ 25 (by decide) sr.1 sr.2.1
  have zw : IntKind.wrap .u64 (v % 33554432) = v % 33554432 := by rw [IntKind.wrap_u64]; omega
  have b1 : bitop .and .u32 (shr .u32 v 24) 1 = v / 16777216 % 2 := by
    have e : shr .u32 v 24 = v / 16777216 := shr_u32 (y := 24) (by decide)
    rw [e]
    exact bit_one _ (by omega) (by omega)
  have zz := zero_25 (v % 33554432) (by omega) (by omega)
  have ss := sign_25 (word_Sign v 25) sr.1 sr.2.1
  have up : IntKind.wrap .u64 (shl .u64 1 25 - 1) = 33554431 := rfl
  have k1 : IntKind.wrap .i64 (25 - 1) = 24 := rfl
  unfold SignFacts
  rw [up, k1, hz, zw, a1, a2, zz, ss, sr.2.2, b1]
  refine ⟨by omega, by omega, hs.symm, by omega, ?_⟩
  rw [hs]
  by_cases hh : v % 33554432 < 16777216
  · refine .inl ⟨by rw [if_pos hh], ?_⟩
    simp only [beq_eq_false_iff_ne, ne_eq]
    omega
  · refine .inr ⟨?_, ?_, ?_⟩
    · simp only [beq_iff_eq]
      omega
    · rw [if_neg hh]
      have o : bitop .or .u64 (IntKind.wrap .u64 ((127 * 2 ^ 25 + (v % 33554432).toNat : Nat) : Int)) 33554431 = ((127 * 2 ^ 25 + (2 ^ 25 - 1) : Nat) : Int) := or_full 127 (v % 33554432).toNat 25 (by omega) (by decide)
      rw [show v % 33554432 + 4261412864 = ((127 * 2 ^ 25 + (v % 33554432).toNat : Nat) : Int) by omega, o]
      rfl
    · refine .inr ?_
      rw [if_neg hh]
      have e2 : shr .u32 (v % 33554432 + 4261412864) 25 = (v % 33554432 + 4261412864) / 33554432 := shr_u32 (y := 25) (by decide)
      rw [e2, show IntKind.wrap .u32 (shl .u32 1 (IntKind.wrap .i64 (32 - 25)) - 1) = 127 from rfl]
      omega
theorem sf_26 (v : Int) (h0 : 0 ≤ v) (h1 : v < 4294967296) : SignFacts v 26 := by
  have hz := zero_26 v h0 h1
  have hs := sign_26 v h0 h1
  have r : 0 ≤ v % 67108864 ∧ v % 67108864 < 67108864 := by omega
  have sr : 0 ≤ word_Sign v 26 ∧ word_Sign v 26 < 4294967296 ∧ word_Sign v 26 % 67108864 = v % 67108864 := by rw [hs]; split <;> omega
  have a1 : bitop .and .u64 (IntKind.wrap .u64 v) 67108863 = ((v.toNat % 2 ^ 26 : Nat) : Int) := and_low v 26 (by decide) h0 h1
  have a2 : bitop .and .u64 (IntKind.wrap .u64 (word_Sign v 26)) 67108863 = (((word_Sign v 26).toNat % 2 ^ 26 : Nat) : Int) := and_low _ 26 (by decide) sr.1 sr.2.1
  have zw : IntKind.wrap .u64 (v % 67108864) = v % 67108864 := by rw [IntKind.wrap_u64]; omega
  have b1 : bitop .and .u32 (shr .u32 v 25) 1 = v / 33554432 % 2 := by
    have e : shr .u32 v 25 = v / 33554432 := shr_u32 (y := 25) (by decide)
    rw [e]
    exact bit_one _ (by omega) (by omega)
  have zz := zero_26 (v % 67108864) (by omega) (by omega)
  have ss := sign_26 (word_Sign v 26) sr.1 sr.2.1
  have up : IntKind.wrap .u64 (shl .u64 1 26 - 1) = 67108863 := rfl
  have k1 : IntKind.wrap .i64 (26 - 1) = 25 := rfl
  unfold SignFacts
  rw [up, k1, hz, zw, a1, a2, zz, ss, sr.2.2, b1]
  refine ⟨by omega, by omega, hs.symm, by omega, ?_⟩
  rw [hs]
  by_cases hh : v % 67108864 < 33554432
  · refine .inl ⟨by rw [if_pos hh], ?_⟩
    simp only [beq_eq_false_iff_ne, ne_eq]
    omega
  · refine .inr ⟨?_, ?_, ?_⟩
    · simp only [beq_iff_eq]
      omega
    · rw [if_neg hh]
      have o : bitop .or .u64 (IntKind.wrap .u64 ((63 * 2 ^ 26 + (v % 67108864).toNat : Nat) : Int)) 67108863 = ((63 * 2 ^ 26 + (2 ^ 26 - 1) : Nat) : Int) := or_full 63 (v % 67108864).toNat 26 (by omega) (by decide)
      rw [show v % 67108864 + 4227858432 = ((63 * 2 ^ 26 + (v % 67108864).toNat : Nat) : Int) by omega, o]
      rfl
    · refine .inr ?_
      rw [if_neg hh]
      have e2 : shr .u32 (v % 67108864 + 4227858432) 26 = (v % 67108864 + 4227858432) / 67108864 := shr_u32 (y := 26) (by decide)
      rw [e2, show IntKind.wrap .u32 (shl .u32 1 (IntKind.wrap .i64 (32 - 26)) - 1) = 63 from rfl]
      omega
theorem sf_27 (v : Int) (h0 : 0 ≤ v) (h1 : v < 4294967296) : SignFacts v 27 := by
  have hz := zero_27 v h0 h1
  have hs := sign_27 v h0 h1
  have r : 0 ≤ v % 134217728 ∧ v % 134217728 < 134217728 := by omega
  have sr : 0 ≤ word_Sign v 27 ∧ word_Sign v 27 < 4294967296 ∧ word_Sign v 27 % 134217728 = v % 134217728 := by rw [hs]; split <;> omega
  have a1 : bitop .and .u64 (IntKind.wrap .u64 v) 134217727 = ((v.toNat % 2 ^ 27 : Nat) : Int) := and_low v 27 (by decide) h0 h1
  have a2 : bitop .and .u64 (IntKind.wrap .u64 (word_Sign v 27)) 134217727 = (((word_Sign v 27).toNat % 2 ^ 27 : Nat) : Int) := and_low _ 27 (by decide) sr.1 sr.2.1
  have zw : IntKind.wrap .u64 (v % 134217728) = v % 134217728 := by rw [IntKind.wrap_u64]; omega
  have b1 : bitop .and .u32 (shr .u32 v 26) 1 = v / 67108864 % 2 := by
    have e : shr .u32 v 26 = v / 67108864 := shr_u32 (y := 26) (by decide)
    rw [e]
    exact bit_one _ (by omega) (by omega)
  have zz := zero_27 (v % 134217728) (by omega) (by omega)
  have ss := sign_27 (word_Sign v 27) sr.1 sr.2.1
  have up : IntKind.wrap .u64 (shl .u64 1 27 - 1) = 134217727 := rfl
  have k1 : IntKind.wrap .i64 (27 - 1) = 26 := rfl
  unfold SignFacts
  rw [up, k1, hz, zw, a1, a2, zz, ss, sr.2.2, b1]
  refine ⟨by omega, by omega, hs.symm, by omega, ?_⟩
  rw [hs]
  by_cases hh : v % 134217728 < 67108864
  · refine .inl ⟨by rw [if_pos hh], ?_⟩
    simp only [beq_eq_false_iff_ne, ne_eq]
    omega
  · refine .inr ⟨?_, ?_, ?_⟩
    · simp only [beq_iff_eq]
      omega
    · rw [if_neg hh]
      have o : bitop .or .u64 (IntKind.wrap .u64 ((31 * 2 ^ 27 + (v % 134217728).toNat : Nat) : Int)) 134217727 = ((31 * 2 ^ 27 + (2 ^ 27 - 1) : Nat) : Int) := or_full 31 (v % 134217728).toNat 27 (by omega) (by decide)
      rw [show v % 134217728 + 4160749568 = ((31 * 2 ^ 27 + (v % 134217728).toNat : Nat) : Int) by omega, o]
      rfl
    · refine .inr ?_
      rw [if_neg hh]
      have e2 : shr .u32 (v % 134217728 + 4160749568) 27 = (v % 134217728 + 4160749568) / 134217728 := shr_u32 (y := 27) (by decide)
      rw [e2, show IntKind.wrap .u32 (shl .u32 1 (IntKind.wrap .i64 (32 - 27)) - 1) = 31 from rfl]
      omega
theorem sf_28 (v : Int) (h0 : 0 ≤ v) (h1 : v < 4294967296) : SignFacts v 28 := by
  have hz := zero_28 v h0 h1
  have hs := sign_28 v h0 h1
  have r : 0 ≤ v % 268435456 ∧ v % 268435456 < 268435456 := by omega
  have sr : 0 ≤ word_Sign v 28 ∧ word_Sign v 28 < 4294967296 ∧ word_Sign v 28 % 268435456 = v % 268435456 := by rw [hs]; split <;> omega
  have a1 : bitop .and .u64 (IntKind.wrap .u64 v) 268435455 = ((v.toNat % 2 ^ 28 : Nat) : Int) := and_low v 28 (by decide) h0 h1
  have a2 : bitop .and .u64 (IntKind.wrap .u64 (word_Sign v 28)) 268435455 = (((word_Sign v 28).toNat % 2 ^ 28 : Nat) : Int) := and_low _ 28 (by decide) sr.1 sr.2.1
  have zw : IntKind.wrap .u64 (v % 268435456) = v % 268435456 := by rw [IntKind.wrap_u64]; omega
  have b1 : bitop .and .u32 (shr .u32 v 27) 1 = v / 134217728 % 2 := by
    have e : shr .u32 v 27 = v / 134217728 := shr_u32 (y := 27) (by decide)
    rw [e]
    exact bit_one _ (by omega) (by omega)
  have zz := zero_28 (v % 268435456) (by omega) (by omega)
  have ss := sign_28 (word_Sign v 28) sr.1 sr.2.1
  have up : IntKind.wrap .u64 (shl .u64 1 28 - 1) = 268435455 := rfl
  have k1 : IntKind.wrap .i64 (28 - 1) = 27 := rfl
  unfold SignFacts
  rw [up, k1, hz, zw, a1, a2, zz, ss, sr.2.2, b1]
  refine ⟨by omega, by omega, hs.symm, by omega, ?_⟩
  rw [hs]
  by_cases hh : v % 268435456 < 134217728
  · refine .inl ⟨by rw [if_pos hh], ?_⟩
    simp only [beq_eq_false_iff_ne, ne_eq]
    omega
  · refine .inr ⟨?_, ?_, ?_⟩
    · simp only [beq_iff_eq]
      omega
    · rw [if_neg hh]
      have o : bitop .or .u64 (IntKind.wrap .u64 ((15 * 2 ^ 28 + (v % 268435456).toNat : Nat) : Int)) 268435455 = ((15 * 2 ^ 28 + (2 ^ 28 - 1) : Nat) : Int) := or_full 15 (v % 268435456).toNat 28 (by omega) (by decide)
      rw [show v % 268435456 + 4026531840 = ((15 * 2 ^ 28 + (v % 268435456).toNat : Nat) : Int) by omega, o]
      rfl
    · refine .inr ?_
      rw [if_neg hh]
      have e2 : shr .u32 (v % 268435456 + 4026531840) 28 = (v % 268435456 + 4026531840) / 268435456 := shr_u32 (y := 28) (by decide)
      rw [e2, show IntKind.wrap .u32 (shl .u32 1 (IntKind.wrap .i64 (32 - 28)) - 1) = 15 from rfl]
      omega
theorem sf_29 (v : Int) (h0 : 0 ≤ v) (h1 : v < 4294967296) : SignFacts v 29 := by
  have hz := zero_29 v h0 h1
  have hs := sign_29 v h0 h1
  have r : 0 ≤ v % 536870912 ∧ v % 536870912 < 536870912 := by omega
  have sr : 0 ≤ word_Sign v 29 ∧ word_Sign v 29 < 4294967296 ∧ word_Sign v 29 % 536870912 = v % 536870912 := by rw [hs]; split <;> omega
  have a1 : bitop .and .u64 (IntKind.wrap .u64 v) 536870911 = ((v.toNat % 2 ^ 29 : Nat) : Int) := and_low v 29 (by decide) h0 h1
  have a2 : bitop .and .u64 (IntKind.wrap .u64 (word_Sign v 29)) 536870911 = (((word_Sign v 29).toNat % 2 ^ 29 : Nat) : Int) := and_low _ 29 (by decide) sr.1 sr.2.1
  have zw : IntKind.wrap .u64 (v % 536870912) = v % 536870912 := by rw [IntKind.wrap_u64]; omega
  have b1 : bitop .and .u32 (shr .u32 v 28) 1 = v / 268435456 % 2 := by
    have e : shr .u32 v 28 = v / 268435456 := shr_u32 (y := 28) (by decide)
    rw [e]
    exact bit_one _ (by omega) (by omega)
  have zz := zero_29 (v % 536870912) (by omega) (by omega)
  have ss := sign_29 (word_Sign v 29) sr.1 sr.2.1
  have up : IntKind.wrap .u64 (shl .u64 1 29 - 1) = 536870911 := rfl
  have k1 : IntKind.wrap .i64 (29 - 1) = 28 := rfl
  unfold SignFacts
  rw [up, k1, hz, zw, a1, a2, zz, ss, sr.2.2, b1]
  refine ⟨by omega, by omega, hs.symm, by omega, ?_⟩
  rw [hs]
  by_cases hh : v % 536870912 < 268435456
  · refine .inl ⟨by rw [if_pos hh], ?_⟩
    simp only [beq_eq_false_iff_ne, ne_eq]
    omega
  · refine .inr ⟨?_, ?_, ?_⟩
    · simp only [beq_iff_eq]
      omega
    · rw [if_neg hh]
      have o : bitop .or .u64 (IntKind.wrap .u64 ((7 * 2 ^ 29 + (v % 536870912).toNat : Nat) : Int)) 536870911 = ((7 * 2 ^ 29 + (2 ^ 29 - 1) : Nat) : Int) := or_full 7 (v % 536870912).toNat 29 (by omega) (by decide)
      rw [show v % 536870912 + 3758096384 = ((7 * 2 ^ 29 + (v % 536870912).toNat : Nat) : Int) by omega, o]
      rfl
    · refine .inr ?_
      rw [if_neg hh]
      have e2 : shr .u32 (v % 536870912 + 3758096384) 29 = (v % 536870912 + 3758096384) / 536870912 := shr_u32 (y := 29) (by decide)
      rw [e2, show IntKind.wrap .u32 (shl .u32 1 (IntKind.wrap .i64 (32 - 29)) - 1) = 7 from rfl]
      omega
theorem sf_30 (v : Int) (h0 : 0 ≤ v) (h1 : v < 4294967296) : SignFacts v 30 := by
  have hz := zero_30 v h0 h1
  have hs := sign_30 v h0 h1
  have r : 0 ≤ v % 1073741824 ∧ v % 1073741824 < 1073741824 := by omega
  have sr : 0 ≤ word_Sign v 30 ∧ word_Sign v 30 < 4294967296 ∧ word_Sign v 30 % 1073741824 = v % 1073741824 := by rw [hs]; split <;> omega
  have a1 : bitop .and .u64 (IntKind.wrap .u64 v) 1073741823 = ((v.toNat % 2 ^ 30 : Nat) : Int) := and_low v 30 (by decide) h0 h1
  have a2 : bitop .and .u64 (IntKind.wrap .u64 (word_Sign v 30)) 1073741823 = (((word_Sign v 30).toNat % 2 ^ 30 : Nat) : Int) := and_low _ 30 (by decide) sr.1 sr.2.1
  have zw : IntKind.wrap .u64 (v % 1073741824) = v % 1073741824 := by rw [IntKind.wrap_u64]; omega
  have b1 : bitop .and .u32 (shr .u32 v 29) 1 = v / 536870912 % 2 := by
    have e : shr .u32 v 29 = v / 536870912 := shr_u32 (y := 29) (by decide)
    rw [e]
    exact bit_one _ (by omega) (by omega)
  have zz := zero_30 (v % 1073741824) (by omega) (by omega)
  have ss := sign_30 (word_Sign v 30) sr.1 sr.2.1
  have up : IntKind.wrap .u64 (shl .u64 1 30 - 1) = 1073741823 := rfl
  have k1 : IntKind.wrap .i64 (30 - 1) = 29 := rfl
  unfold SignFacts
  rw [up, k1, hz, zw, a1, a2, zz, ss, sr.2.2, b1]
  refine ⟨by omega, by omega, hs.symm, by omega, ?_⟩
  rw [hs]
  by_cases hh : v % 1073741824 < 536870912
  · refine .inl ⟨by rw [if_pos hh], ?_⟩
    simp only [beq_eq_false_iff_ne, ne_eq]
    omega
  · refine .inr ⟨?_, ?_, ?_⟩
    · simp only [beq_iff_eq]
      omega
    · rw [if_neg hh]
      have o : bitop .or .u64 (IntKind.wrap .u64 ((3 * 2 ^ 30 + (v % 1073741824).toNat : Nat) : Int)) 1073741823 = ((3 * 2 ^ 30 + (2 ^ 30 - 1) : Nat) : Int) := or_full 3 (v % 1073741824).toNat 30 (by omega) (by decide)
      rw [show v % 1073741824 + 3221225472 = ((3 * 2 ^ 30 + (v % 1073741824).toNat : Nat) : Int) by omega, o]
      rfl
    · refine .inr ?_
      rw [if_neg hh]
      have e2 : shr .u32 (v % 1073741824 + 3221225472) 30 = (v % 1073741824 + 3221225472) / 1073741824 := shr_u32 (y := 30) (by decide)
      rw [e2, show IntKind.wrap .u32 (shl .u32 1 (IntKind.wrap .i64 (32 - 30)) - 1) = 3 from rfl]
      omega
theorem sf_31 (v : Int) (h0 : 0 ≤ v) (h1 : v < 4294967296) : SignFacts v 31 := by
  have hz := zero_31 v h0 h1
  have hs := sign_31 v h0 h1
  have r : 0 ≤ v % 2147483648 ∧ v % 2147483648 < 2147483648 := by omega
  have sr : 0 ≤ word_Sign v 31 ∧ word_Sign v 31 < 4294967296 ∧ word_Sign v 31 % 2147483648 = v % 2147483648 := by rw [hs]; split <;> omega
  have a1 : bitop .and .u64 (IntKind.wrap .u64 v) 2147483647 = ((v.toNat % 2 ^ 31 : Nat) : Int) := and_low v 31 (by decide) h0 h1
  have a2 : bitop .and .u64 (IntKind.wrap .u64 (word_Sign v 31)) 2147483647 = (((word_Sign v 31).toNat % 2 ^ 31 : Nat) : Int) := and_low _ 31 (by decide) sr.1 sr.2.1
  have zw : IntKind.wrap .u64 (v % 2147483648) = v % 2147483648 := by rw [IntKind.wrap_u64]; omega
  have b1 : bitop .and .u32 (shr .u32 v 30) 1 = v / 1073741824 % 2 := by
    have e : shr .u32 v 30 = v / 1073741824 := shr_u32 (y := 30) (by decide)
    rw [e]
    exact bit_one _ (by omega) (by omega)
  have zz := zero_31 (v % 2147483648) (by omega) (by omega)
  have ss := sign_31 (word_Sign v 31) sr.1 sr.2.1
  have up : IntKind.wrap .u64 (shl .u64 1 31 - 1) = 2147483647 := rfl
  have k1 : IntKind.wrap .i64 (31 - 1) = 30 := rfl
  unfold SignFacts
  rw [up, k1, hz, zw, a1, a2, zz, ss, sr.2.2, b1]
  refine ⟨by omega, by omega, hs.symm, by omega, ?_⟩
  rw [hs]
  by_cases hh : v % 2147483648 < 1073741824
  · refine .inl ⟨by rw [if_pos hh], ?_⟩
    simp only [beq_eq_false_iff_ne, ne_eq]
    omega
  · refine .inr ⟨?_, ?_, ?_⟩
    · simp only [beq_iff_eq]
      omega
    · rw [if_neg hh]
      have o : bitop .or .u64 (IntKind.wrap .u64 ((1 * 2 ^ 31 + (v % 2147483648).toNat : Nat) : Int)) 2147483647 = ((1 * 2 ^ 31 + (2 ^ 31 - 1) : Nat) : Int) := or_full 1 (v % 2147483648).toNat 31 (by omega) (by decide)
      rw [show v % 2147483648 + 2147483648 = ((1 * 2 ^ 31 + (v % 2147483648).toNat : Nat) : Int) by omega, o]
      rfl
    · refine .inr ?_
      rw [if_neg hh]
      have e2 : shr .u32 (v % 2147483648 + 2147483648) 31 = (v % 2147483648 + 2147483648) / 2147483648 := shr_u32 (y := 31) (by decide)
      rw [e2, show IntKind.wrap .u32 (shl .u32 1 (IntKind.wrap .i64 (32 - 31)) - 1) = 1 from rfl]
      omega
theorem sf_32 (v : Int) (h0 : 0 ≤ v) (h1 : v < 4294967296) : SignFacts v 32 := by
  have hz := zero_32 v h0 h1
  have hs := sign_32 v h0 h1
  have r : 0 ≤ v % 4294967296 ∧ v % 4294967296 < 4294967296 := by omega
  have sr : 0 ≤ word_Sign v 32 ∧ word_Sign v 32 < 4294967296 ∧ word_Sign v 32 % 4294967296 = v % 4294967296 := by rw [hs]; split <;> omega
  have a1 : bitop .and .u64 (IntKind.wrap .u64 v) 4294967295 = ((v.toNat % 2 ^ 32 : Nat) : Int) := and_low v 32 (by decide) h0 h1
  have a2 : bitop .and .u64 (IntKind.wrap .u64 (word_Sign v 32)) 4294967295 = (((word_Sign v 32).toNat % 2 ^ 32 : Nat) : Int) := and_low _ 32 (by decide) sr.1 sr.2.1
  have zw : IntKind.wrap .u64 (v % 4294967296) = v % 4294967296 := by rw [IntKind.wrap_u64]; omega
  have b1 : bitop .and .u32 (shr .u32 v 31) 1 = v / 2147483648 % 2 := by
    have e : shr .u32 v 31 = v / 2147483648 := shr_u32 (y := 31) (by decide)
    rw [e]
    exact bit_one _ (by omega) (by omega)
  have zz := zero_32 (v % 4294967296) (by omega) (by omega)
  have ss := sign_32 (word_Sign v 32) sr.1 sr.2.1
  have up : IntKind.wrap .u64 (shl .u64 1 32 - 1) = 4294967295 := rfl
  have k1 : IntKind.wrap .i64 (32 - 1) = 31 := rfl
  unfold SignFacts
  rw [up, k1, hz, zw, a1, a2, zz, ss, sr.2.2, b1]
  refine ⟨by omega, by omega, hs.symm, by omega, ?_⟩
  rw [hs]
  by_cases hh : v % 4294967296 < 2147483648
  · refine .inl ⟨by rw [if_pos hh], ?_⟩
    simp only [beq_eq_false_iff_ne, ne_eq]
    omega
  · refine .inr ⟨?_, ?_, ?_⟩
    · simp only [beq_iff_eq]
      omega
    · rw [if_neg hh]
      have o : bitop .or .u64 (IntKind.wrap .u64 ((0 * 2 ^ 32 + (v % 4294967296).toNat : Nat) : Int)) 4294967295 = ((0 * 2 ^ 32 + (2 ^ 32 - 1) : Nat) : Int) := or_full 0 (v % 4294967296).toNat 32 (by omega) (by decide)
      rw [show v % 4294967296 + 0 = ((0 * 2 ^ 32 + (v % 4294967296).toNat : Nat) : Int) by omega, o]
      rfl
    · exact .inl rfl

end
end Go.D.Ytbcjiicaekfjlaa
