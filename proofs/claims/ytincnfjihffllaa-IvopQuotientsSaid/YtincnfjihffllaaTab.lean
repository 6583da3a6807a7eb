/- The types' table of this seat. -/
import Derived.Test.YtincnfjihffllaaProg
import Derived.Test.YtincnfjihffllaaEv21
import Derived.KernelRfl
namespace Go.Proofs.Ytincnfjihffllaa.Ev
open Go Go.Proofs
def tab : List (Nat × TI) :=
  [(3, ⟨.int .i64, 1, 8, [.int .i64 (.l 0)], (some [some .i64])⟩),
   (4, ⟨.bool, 1, 1, [.bool (.l false)], (some [none])⟩),
   (5, ⟨.int .u8, 1, 1, [.int .u8 (.l 0)], (some [some .u8])⟩),
   (9, ⟨.str, 1, 16, [.str ⟨#[]⟩], none⟩),
   (22, ⟨.int .u64, 1, 8, [.int .u64 (.l 0)], (some [some .u64])⟩),
   (24, ⟨.struct [(0, 1, false), (1, 1, false), (2, 1, false), (3, 1, false)], 4, 32, [.int .i64 (.l 0), .bool (.l false), .int .u64 (.l 0), .int .i64 (.l 0)], (some [some .i64, none, some .u64, some .i64])⟩),
   (26, ⟨.one, 1, 8, [.lit .nilFunc], none⟩),
   (32, ⟨.slice 71, 1, 24, [.s0], none⟩),
   (34, ⟨.struct [(0, 1, false), (1, 1, false)], 2, 32, [.bool (.l false), .s0], none⟩),
   (36, ⟨.struct [(0, 2, true), (2, 1, false)], 3, 40, [.bool (.l false), .s0, .int .i64 (.l 0)], none⟩),
   (50, ⟨.struct [(0, 1, false), (1, 4, true), (5, 4, true)], 9, 72, [.bool (.l false), .int .i64 (.l 0), .bool (.l false), .int .u64 (.l 0), .int .i64 (.l 0), .int .i64 (.l 0), .bool (.l false), .int .u64 (.l 0), .int .i64 (.l 0)], (some [none, some .i64, none, some .u64, some .i64, some .i64, none, some .u64, some .i64])⟩),
   (56, ⟨.slice 50, 1, 24, [.s0], none⟩),
   (62, ⟨.slice 3, 1, 24, [.s0], none⟩),
   (71, ⟨.int .u32, 1, 4, [.int .u32 (.l 0)], (some [some .u32])⟩),
   (73, ⟨.int .u64, 1, 8, [.int .u64 (.l 0)], (some [some .u64])⟩),
   (78, ⟨.struct [(0, 2, true), (2, 1, false)], 3, 40, [.bool (.l false), .s0, .int .i64 (.l 0)], none⟩),
   (101, ⟨.int .i64, 1, 8, [.int .i64 (.l 0)], (some [some .i64])⟩),
   (111, ⟨.slice 24, 1, 24, [.s0], none⟩),
   (118, ⟨.struct [(0, 9, true), (9, 1, false)], 10, 80, [.bool (.l false), .int .i64 (.l 0), .bool (.l false), .int .u64 (.l 0), .int .i64 (.l 0), .int .i64 (.l 0), .bool (.l false), .int .u64 (.l 0), .int .i64 (.l 0), .bool (.l false)], (some [none, some .i64, none, some .u64, some .i64, some .i64, none, some .u64, some .i64, none])⟩),
   (122, ⟨.one, 1, 16, [.lit .nilIface], none⟩),
   (133, ⟨.slice 34, 1, 24, [.s0], none⟩),
   (148, ⟨.slice 5, 1, 24, [.s0], none⟩),
   (151, ⟨.struct [(0, 1, false), (1, 1, false)], 2, 32, [.lit (.pointer none), .s0], none⟩),
   (155, ⟨.struct [(0, 1, false), (1, 1, false), (2, 1, false)], 3, 24, [.int .u64 (.l 0), .int .u64 (.l 0), .bool (.l false)], (some [some .u64, some .u64, none])⟩)]
def G : Nat → TI := lookG tab
theorem hG : GOK Try.prog G := tabOK (by kernel_rfl) (by kernel_rfl)
theorem hm : Try.prog.follows .mixedOrders = true := by kernel_rfl
end Go.Proofs.Ytincnfjihffllaa.Ev
