/- The table of this program's types, printed by a program of this claim. Conditions: none. -/
import Derived.Test.YtdhgdpcmdmgchaaGreatFwR
import Derived.Test.YtdhgdpcmdmgchaaGreatProg
namespace Go.Proofs.YtdhgdpcmdmgchaaGreat.Fw
open Go
set_option linter.unusedSimpArgs false
set_option linter.unusedVariables false

def d2 : TD := { size := 1, bytes := 8, agg := false, zero := [.int .i64 0], ik := some .i64 }
theorem td2 : TdOk Tryz.prog 2 d2 :=
  { eqs := by simp [d2], info := ⟨Tryz.t2, _, Tryz.type2, rfl, rfl, rfl, rfl⟩, zl := rfl, zp := by simp [d2, L.plain], pos := by simp [d2],
    und := ⟨_, Tryz.underlying2, rfl, by simp [d2], by intro k h; simp [d2] at h; subst h; rfl, by simp [d2], by simp [d2]⟩ }
def d3 : TD := { size := 1, bytes := 8, agg := false, zero := [.int .i64 0], ik := some .i64 }
theorem td3 : TdOk Tryz.prog 3 d3 :=
  { eqs := by simp [d3], info := ⟨Tryz.t3, _, Tryz.type3, rfl, rfl, rfl, rfl⟩, zl := rfl, zp := by simp [d3, L.plain], pos := by simp [d3],
    und := ⟨_, Tryz.underlying3, rfl, by simp [d3], by intro k h; simp [d3] at h; subst h; rfl, by simp [d3], by simp [d3]⟩ }
def d4 : TD := { size := 1, bytes := 1, agg := false, zero := [.bool false], isB := true }
theorem td4 : TdOk Tryz.prog 4 d4 :=
  { eqs := by simp [d4], info := ⟨Tryz.t4, _, Tryz.type4, rfl, rfl, rfl, rfl⟩, zl := rfl, zp := by simp [d4, L.plain], pos := by simp [d4],
    und := ⟨_, Tryz.underlying4, rfl, by simp [d4], by simp [d4], fun _ => rfl, by simp [d4]⟩ }
def d5 : TD := { size := 1, bytes := 1, agg := false, zero := [.int .u8 0], ik := some .u8 }
theorem td5 : TdOk Tryz.prog 5 d5 :=
  { eqs := by simp [d5], info := ⟨Tryz.t5, _, Tryz.type5, rfl, rfl, rfl, rfl⟩, zl := rfl, zp := by simp [d5, L.plain], pos := by simp [d5],
    und := ⟨_, Tryz.underlying5, rfl, by simp [d5], by intro k h; simp [d5] at h; subst h; rfl, by simp [d5], by simp [d5]⟩ }
def d6 : TD := { size := 1, bytes := 1, agg := false, zero := [.int .u8 0], ik := some .u8 }
theorem td6 : TdOk Tryz.prog 6 d6 :=
  { eqs := by simp [d6], info := ⟨Tryz.t6, _, Tryz.type6, rfl, rfl, rfl, rfl⟩, zl := rfl, zp := by simp [d6, L.plain], pos := by simp [d6],
    und := ⟨_, Tryz.underlying6, rfl, by simp [d6], by intro k h; simp [d6] at h; subst h; rfl, by simp [d6], by simp [d6]⟩ }
def d7 : TD := { size := 4, bytes := 24, agg := true, zero := [.int .i64 0, .int .i64 0, .bool false, .int .u8 0], flds := [(0, 2), (1, 3), (2, 4), (3, 6)], eqs := true }
theorem td7 : TdOk Tryz.prog 7 d7 :=
  { eqs := fun _ => ⟨by kernel_rfl, by kernel_rfl, _, Tryz.underlying7, rfl, by simp⟩, info := ⟨Tryz.t7, _, Tryz.type7, rfl, rfl, rfl, rfl⟩, zl := rfl, zp := by simp [d7, L.plain], pos := by simp [d7],
    und := ⟨_, Tryz.underlying7, rfl, by simp [d7], by simp [d7], by simp [d7], fun _ => ⟨_, rfl, rfl, by simp only [List.mem_cons, List.not_mem_nil, or_false]; intro f hf; rcases hf with rfl | rfl | rfl | rfl <;> exact ⟨_, rfl⟩⟩⟩ }
def d8 : TD := { size := 4, bytes := 24, agg := true, zero := [.int .i64 0, .int .i64 0, .bool false, .int .u8 0], flds := [(0, 2), (1, 3), (2, 4), (3, 6)], eqs := true }
theorem td8 : TdOk Tryz.prog 8 d8 :=
  { eqs := fun _ => ⟨by kernel_rfl, by kernel_rfl, _, Tryz.underlying8, rfl, by simp⟩, info := ⟨Tryz.t8, _, Tryz.type8, rfl, rfl, rfl, rfl⟩, zl := rfl, zp := by simp [d8, L.plain], pos := by simp [d8],
    und := ⟨_, Tryz.underlying8, rfl, by simp [d8], by simp [d8], by simp [d8], fun _ => ⟨_, rfl, rfl, by simp only [List.mem_cons, List.not_mem_nil, or_false]; intro f hf; rcases hf with rfl | rfl | rfl | rfl <;> exact ⟨_, rfl⟩⟩⟩ }
def d12 : TD := { size := 1, bytes := 8, agg := false, zero := [.int .u64 0], ik := some .u64 }
theorem td12 : TdOk Tryz.prog 12 d12 :=
  { eqs := by simp [d12], info := ⟨Tryz.t12, _, Tryz.type12, rfl, rfl, rfl, rfl⟩, zl := rfl, zp := by simp [d12, L.plain], pos := by simp [d12],
    und := ⟨_, Tryz.underlying12, rfl, by simp [d12], by intro k h; simp [d12] at h; subst h; rfl, by simp [d12], by simp [d12]⟩ }
def d21 : TD := { size := 1, bytes := 4, agg := false, zero := [.int .i32 0], ik := some .i32 }
theorem td21 : TdOk Tryz.prog 21 d21 :=
  { eqs := by simp [d21], info := ⟨Tryz.t21, _, Tryz.type21, rfl, rfl, rfl, rfl⟩, zl := rfl, zp := by simp [d21, L.plain], pos := by simp [d21],
    und := ⟨_, Tryz.underlying21, rfl, by simp [d21], by intro k h; simp [d21] at h; subst h; rfl, by simp [d21], by simp [d21]⟩ }
def d22 : TD := { size := 1, bytes := 24, agg := false, zero := [.sl 1 0 []], elem := some 36 }
theorem td22 : TdOk Tryz.prog 22 d22 :=
  { eqs := by simp [d22], info := ⟨Tryz.t22, _, Tryz.type22, rfl, rfl, rfl, rfl⟩, zl := rfl, zp := by simp [d22, L.plain], pos := by simp [d22],
    und := ⟨_, Tryz.underlying22, rfl, by intro e h; simp [d22] at h; subst h; rfl, by simp [d22], by simp [d22], by simp [d22]⟩ }
def d23 : TD := { size := 1, bytes := 24, agg := false, zero := [.sl 1 0 []], elem := some 84 }
theorem td23 : TdOk Tryz.prog 23 d23 :=
  { eqs := by simp [d23], info := ⟨Tryz.t23, _, Tryz.type23, rfl, rfl, rfl, rfl⟩, zl := rfl, zp := by simp [d23, L.plain], pos := by simp [d23],
    und := ⟨_, Tryz.underlying23, rfl, by intro e h; simp [d23] at h; subst h; rfl, by simp [d23], by simp [d23], by simp [d23]⟩ }
def d24 : TD := { size := 2, bytes := 32, agg := true, zero := [.bool false, .sl 1 0 []], flds := [(0, 4), (1, 23)] }
theorem td24 : TdOk Tryz.prog 24 d24 :=
  { eqs := by simp [d24], info := ⟨Tryz.t24, _, Tryz.type24, rfl, rfl, rfl, rfl⟩, zl := rfl, zp := by simp [d24, L.plain], pos := by simp [d24],
    und := ⟨_, Tryz.underlying24, rfl, by simp [d24], by simp [d24], by simp [d24], fun _ => ⟨_, rfl, rfl, by simp only [List.mem_cons, List.not_mem_nil, or_false]; intro f hf; rcases hf with rfl | rfl <;> exact ⟨_, rfl⟩⟩⟩ }
def d25 : TD := { size := 2, bytes := 32, agg := true, zero := [.bool false, .sl 1 0 []], flds := [(0, 4), (1, 23)] }
theorem td25 : TdOk Tryz.prog 25 d25 :=
  { eqs := by simp [d25], info := ⟨Tryz.t25, _, Tryz.type25, rfl, rfl, rfl, rfl⟩, zl := rfl, zp := by simp [d25, L.plain], pos := by simp [d25],
    und := ⟨_, Tryz.underlying25, rfl, by simp [d25], by simp [d25], by simp [d25], fun _ => ⟨_, rfl, rfl, by simp only [List.mem_cons, List.not_mem_nil, or_false]; intro f hf; rcases hf with rfl | rfl <;> exact ⟨_, rfl⟩⟩⟩ }
def d26 : TD := { size := 4, bytes := 64, agg := true, zero := [.bool false, .sl 1 0 [], .bool false, .sl 1 0 []], flds := [(0, 25), (2, 25)] }
theorem td26 : TdOk Tryz.prog 26 d26 :=
  { eqs := by simp [d26], info := ⟨Tryz.t26, _, Tryz.type26, rfl, rfl, rfl, rfl⟩, zl := rfl, zp := by simp [d26, L.plain], pos := by simp [d26],
    und := ⟨_, Tryz.underlying26, rfl, by simp [d26], by simp [d26], by simp [d26], fun _ => ⟨_, rfl, rfl, by simp only [List.mem_cons, List.not_mem_nil, or_false]; intro f hf; rcases hf with rfl | rfl <;> exact ⟨_, rfl⟩⟩⟩ }
def d27 : TD := { size := 4, bytes := 64, agg := true, zero := [.bool false, .sl 1 0 [], .bool false, .sl 1 0 []], flds := [(0, 25), (2, 25)] }
theorem td27 : TdOk Tryz.prog 27 d27 :=
  { eqs := by simp [d27], info := ⟨Tryz.t27, _, Tryz.type27, rfl, rfl, rfl, rfl⟩, zl := rfl, zp := by simp [d27, L.plain], pos := by simp [d27],
    und := ⟨_, Tryz.underlying27, rfl, by simp [d27], by simp [d27], by simp [d27], fun _ => ⟨_, rfl, rfl, by simp only [List.mem_cons, List.not_mem_nil, or_false]; intro f hf; rcases hf with rfl | rfl <;> exact ⟨_, rfl⟩⟩⟩ }
def d28 : TD := { size := 8, bytes := 128, agg := true, zero := [.bool false, .sl 1 0 [], .bool false, .sl 1 0 [], .bool false, .sl 1 0 [], .bool false, .sl 1 0 []], flds := [(0, 27), (4, 27)] }
theorem td28 : TdOk Tryz.prog 28 d28 :=
  { eqs := by simp [d28], info := ⟨Tryz.t28, _, Tryz.type28, rfl, rfl, rfl, rfl⟩, zl := rfl, zp := by simp [d28, L.plain], pos := by simp [d28],
    und := ⟨_, Tryz.underlying28, rfl, by simp [d28], by simp [d28], by simp [d28], fun _ => ⟨_, rfl, rfl, by simp only [List.mem_cons, List.not_mem_nil, or_false]; intro f hf; rcases hf with rfl | rfl <;> exact ⟨_, rfl⟩⟩⟩ }
def d29 : TD := { size := 8, bytes := 128, agg := true, zero := [.bool false, .sl 1 0 [], .bool false, .sl 1 0 [], .bool false, .sl 1 0 [], .bool false, .sl 1 0 []], flds := [(0, 27), (4, 27)] }
theorem td29 : TdOk Tryz.prog 29 d29 :=
  { eqs := by simp [d29], info := ⟨Tryz.t29, _, Tryz.type29, rfl, rfl, rfl, rfl⟩, zl := rfl, zp := by simp [d29, L.plain], pos := by simp [d29],
    und := ⟨_, Tryz.underlying29, rfl, by simp [d29], by simp [d29], by simp [d29], fun _ => ⟨_, rfl, rfl, by simp only [List.mem_cons, List.not_mem_nil, or_false]; intro f hf; rcases hf with rfl | rfl <;> exact ⟨_, rfl⟩⟩⟩ }
def d34 : TD := { size := 2, bytes := 16, agg := true, zero := [.int .i64 0, .int .i64 0], flds := [(0, 2), (1, 2)], eqs := true }
theorem td34 : TdOk Tryz.prog 34 d34 :=
  { eqs := fun _ => ⟨by kernel_rfl, by kernel_rfl, _, Tryz.underlying34, rfl, by simp⟩, info := ⟨Tryz.t34, _, Tryz.type34, rfl, rfl, rfl, rfl⟩, zl := rfl, zp := by simp [d34, L.plain], pos := by simp [d34],
    und := ⟨_, Tryz.underlying34, rfl, by simp [d34], by simp [d34], by simp [d34], fun _ => ⟨_, rfl, rfl, by simp only [List.mem_cons, List.not_mem_nil, or_false]; intro f hf; rcases hf with rfl | rfl <;> exact ⟨_, rfl⟩⟩⟩ }
def d35 : TD := { size := 2, bytes := 16, agg := true, zero := [.int .i64 0, .int .i64 0], flds := [(0, 2), (1, 2)], eqs := true }
theorem td35 : TdOk Tryz.prog 35 d35 :=
  { eqs := fun _ => ⟨by kernel_rfl, by kernel_rfl, _, Tryz.underlying35, rfl, by simp⟩, info := ⟨Tryz.t35, _, Tryz.type35, rfl, rfl, rfl, rfl⟩, zl := rfl, zp := by simp [d35, L.plain], pos := by simp [d35],
    und := ⟨_, Tryz.underlying35, rfl, by simp [d35], by simp [d35], by simp [d35], fun _ => ⟨_, rfl, rfl, by simp only [List.mem_cons, List.not_mem_nil, or_false]; intro f hf; rcases hf with rfl | rfl <;> exact ⟨_, rfl⟩⟩⟩ }
def d36 : TD := { size := 1, bytes := 24, agg := false, zero := [.sl 2 0 []], elem := some 35 }
theorem td36 : TdOk Tryz.prog 36 d36 :=
  { eqs := by simp [d36], info := ⟨Tryz.t36, _, Tryz.type36, rfl, rfl, rfl, rfl⟩, zl := rfl, zp := by simp [d36, L.plain], pos := by simp [d36],
    und := ⟨_, Tryz.underlying36, rfl, by intro e h; simp [d36] at h; subst h; rfl, by simp [d36], by simp [d36], by simp [d36]⟩ }
def d38 : TD := { size := 1, bytes := 8, agg := false, zero := [.int .i64 0], ik := some .i64 }
theorem td38 : TdOk Tryz.prog 38 d38 :=
  { eqs := by simp [d38], info := ⟨Tryz.t38, _, Tryz.type38, rfl, rfl, rfl, rfl⟩, zl := rfl, zp := by simp [d38, L.plain], pos := by simp [d38],
    und := ⟨_, Tryz.underlying38, rfl, by simp [d38], by intro k h; simp [d38] at h; subst h; rfl, by simp [d38], by simp [d38]⟩ }
def d44 : TD := { size := 1, bytes := 24, agg := false, zero := [.sl 7 0 []], elem := some 49 }
theorem td44 : TdOk Tryz.prog 44 d44 :=
  { eqs := by simp [d44], info := ⟨Tryz.t44, _, Tryz.type44, rfl, rfl, rfl, rfl⟩, zl := rfl, zp := by simp [d44, L.plain], pos := by simp [d44],
    und := ⟨_, Tryz.underlying44, rfl, by intro e h; simp [d44] at h; subst h; rfl, by simp [d44], by simp [d44], by simp [d44]⟩ }
def d46 : TD := { size := 3, bytes := 24, agg := true, zero := [.int .i64 0, .int .i64 0, .int .i64 0], flds := [(0, 2), (1, 2), (2, 2)], eqs := true }
theorem td46 : TdOk Tryz.prog 46 d46 :=
  { eqs := fun _ => ⟨by kernel_rfl, by kernel_rfl, _, Tryz.underlying46, rfl, by simp⟩, info := ⟨Tryz.t46, _, Tryz.type46, rfl, rfl, rfl, rfl⟩, zl := rfl, zp := by simp [d46, L.plain], pos := by simp [d46],
    und := ⟨_, Tryz.underlying46, rfl, by simp [d46], by simp [d46], by simp [d46], fun _ => ⟨_, rfl, rfl, by simp only [List.mem_cons, List.not_mem_nil, or_false]; intro f hf; rcases hf with rfl | rfl | rfl <;> exact ⟨_, rfl⟩⟩⟩ }
def d47 : TD := { size := 3, bytes := 24, agg := true, zero := [.int .i64 0, .int .i64 0, .int .i64 0], flds := [(0, 2), (1, 2), (2, 2)], eqs := true }
theorem td47 : TdOk Tryz.prog 47 d47 :=
  { eqs := fun _ => ⟨by kernel_rfl, by kernel_rfl, _, Tryz.underlying47, rfl, by simp⟩, info := ⟨Tryz.t47, _, Tryz.type47, rfl, rfl, rfl, rfl⟩, zl := rfl, zp := by simp [d47, L.plain], pos := by simp [d47],
    und := ⟨_, Tryz.underlying47, rfl, by simp [d47], by simp [d47], by simp [d47], fun _ => ⟨_, rfl, rfl, by simp only [List.mem_cons, List.not_mem_nil, or_false]; intro f hf; rcases hf with rfl | rfl | rfl <;> exact ⟨_, rfl⟩⟩⟩ }
def d48 : TD := { size := 7, bytes := 56, agg := true, zero := [.int .i64 0, .int .i64 0, .int .i64 0, .int .i64 0, .int .i64 0, .int .i64 0, .int .i64 0], flds := [(0, 3), (1, 47), (4, 35), (6, 2)], eqs := true }
theorem td48 : TdOk Tryz.prog 48 d48 :=
  { eqs := fun _ => ⟨by kernel_rfl, by kernel_rfl, _, Tryz.underlying48, rfl, by simp⟩, info := ⟨Tryz.t48, _, Tryz.type48, rfl, rfl, rfl, rfl⟩, zl := rfl, zp := by simp [d48, L.plain], pos := by simp [d48],
    und := ⟨_, Tryz.underlying48, rfl, by simp [d48], by simp [d48], by simp [d48], fun _ => ⟨_, rfl, rfl, by simp only [List.mem_cons, List.not_mem_nil, or_false]; intro f hf; rcases hf with rfl | rfl | rfl | rfl <;> exact ⟨_, rfl⟩⟩⟩ }
def d49 : TD := { size := 7, bytes := 56, agg := true, zero := [.int .i64 0, .int .i64 0, .int .i64 0, .int .i64 0, .int .i64 0, .int .i64 0, .int .i64 0], flds := [(0, 3), (1, 47), (4, 35), (6, 2)], eqs := true }
theorem td49 : TdOk Tryz.prog 49 d49 :=
  { eqs := fun _ => ⟨by kernel_rfl, by kernel_rfl, _, Tryz.underlying49, rfl, by simp⟩, info := ⟨Tryz.t49, _, Tryz.type49, rfl, rfl, rfl, rfl⟩, zl := rfl, zp := by simp [d49, L.plain], pos := by simp [d49],
    und := ⟨_, Tryz.underlying49, rfl, by simp [d49], by simp [d49], by simp [d49], fun _ => ⟨_, rfl, rfl, by simp only [List.mem_cons, List.not_mem_nil, or_false]; intro f hf; rcases hf with rfl | rfl | rfl | rfl <;> exact ⟨_, rfl⟩⟩⟩ }
def d68 : TD := { size := 1, bytes := 24, agg := false, zero := [.sl 4 0 []], elem := some 27 }
theorem td68 : TdOk Tryz.prog 68 d68 :=
  { eqs := by simp [d68], info := ⟨Tryz.t68, _, Tryz.type68, rfl, rfl, rfl, rfl⟩, zl := rfl, zp := by simp [d68, L.plain], pos := by simp [d68],
    und := ⟨_, Tryz.underlying68, rfl, by intro e h; simp [d68] at h; subst h; rfl, by simp [d68], by simp [d68], by simp [d68]⟩ }
def d83 : TD := { size := 1, bytes := 8, agg := false, zero := [.int .u64 0], ik := some .u64 }
theorem td83 : TdOk Tryz.prog 83 d83 :=
  { eqs := by simp [d83], info := ⟨Tryz.t83, _, Tryz.type83, rfl, rfl, rfl, rfl⟩, zl := rfl, zp := by simp [d83, L.plain], pos := by simp [d83],
    und := ⟨_, Tryz.underlying83, rfl, by simp [d83], by intro k h; simp [d83] at h; subst h; rfl, by simp [d83], by simp [d83]⟩ }
def d84 : TD := { size := 1, bytes := 4, agg := false, zero := [.int .u32 0], ik := some .u32 }
theorem td84 : TdOk Tryz.prog 84 d84 :=
  { eqs := by simp [d84], info := ⟨Tryz.t84, _, Tryz.type84, rfl, rfl, rfl, rfl⟩, zl := rfl, zp := by simp [d84, L.plain], pos := by simp [d84],
    und := ⟨_, Tryz.underlying84, rfl, by simp [d84], by intro k h; simp [d84] at h; subst h; rfl, by simp [d84], by simp [d84]⟩ }
def d106 : TD := { size := 1, bytes := 1, agg := false, zero := [.int .u8 0], ik := some .u8 }
theorem td106 : TdOk Tryz.prog 106 d106 :=
  { eqs := by simp [d106], info := ⟨Tryz.t106, _, Tryz.type106, rfl, rfl, rfl, rfl⟩, zl := rfl, zp := by simp [d106, L.plain], pos := by simp [d106],
    und := ⟨_, Tryz.underlying106, rfl, by simp [d106], by intro k h; simp [d106] at h; subst h; rfl, by simp [d106], by simp [d106]⟩ }
def d107 : TD := { size := 1, bytes := 1, agg := false, zero := [.int .u8 0], ik := some .u8 }
theorem td107 : TdOk Tryz.prog 107 d107 :=
  { eqs := by simp [d107], info := ⟨Tryz.t107, _, Tryz.type107, rfl, rfl, rfl, rfl⟩, zl := rfl, zp := by simp [d107, L.plain], pos := by simp [d107],
    und := ⟨_, Tryz.underlying107, rfl, by simp [d107], by intro k h; simp [d107] at h; subst h; rfl, by simp [d107], by simp [d107]⟩ }
def d110 : TD := { size := 1, bytes := 4, agg := false, zero := [.int .i32 0], ik := some .i32 }
theorem td110 : TdOk Tryz.prog 110 d110 :=
  { eqs := by simp [d110], info := ⟨Tryz.t110, _, Tryz.type110, rfl, rfl, rfl, rfl⟩, zl := rfl, zp := by simp [d110, L.plain], pos := by simp [d110],
    und := ⟨_, Tryz.underlying110, rfl, by simp [d110], by intro k h; simp [d110] at h; subst h; rfl, by simp [d110], by simp [d110]⟩ }
def d111 : TD := { size := 1, bytes := 4, agg := false, zero := [.int .i32 0], ik := some .i32 }
theorem td111 : TdOk Tryz.prog 111 d111 :=
  { eqs := by simp [d111], info := ⟨Tryz.t111, _, Tryz.type111, rfl, rfl, rfl, rfl⟩, zl := rfl, zp := by simp [d111, L.plain], pos := by simp [d111],
    und := ⟨_, Tryz.underlying111, rfl, by simp [d111], by intro k h; simp [d111] at h; subst h; rfl, by simp [d111], by simp [d111]⟩ }
def tds : List (Nat × TD) := [(2, d2), (3, d3), (4, d4), (5, d5), (6, d6), (7, d7), (8, d8), (12, d12), (21, d21), (22, d22), (23, d23), (24, d24), (25, d25), (26, d26), (27, d27), (28, d28), (29, d29), (34, d34), (35, d35), (36, d36), (38, d38), (44, d44), (46, d46), (47, d47), (48, d48), (49, d49), (68, d68), (83, d83), (84, d84), (106, d106), (107, d107), (110, d110), (111, d111)]
def getT (t : Nat) : List (Nat × TD) → Option TD
  | [] => none
  | (u, d) :: l => if t = u then some d else getT t l
def muOf : List (Nat × Nat) := [(100, 0), (101, 0)]
def boOf : List Nat := [0, 1, 2, 3, 4, 5, 6, 7, 8, 9, 10, 11, 13, 17, 20, 23, 25, 29, 30, 31, 34, 38, 39, 40, 42, 45, 48, 50, 53, 54, 64, 65, 77, 82, 83, 100, 101, 109, 111, 113, 115, 117, 119, 120, 122]
def getM (f : Nat) : List (Nat × Nat) → Option Nat
  | [] => none
  | (u, d) :: l => if f = u then some d else getM f l
def Tb : Tab := { td := fun t => getT t tds, mu := fun f => getM f muOf, bo := fun f => boOf.contains f }
theorem tb_ok : TabOk Tryz.prog Tb := by
  have key : ∀ l : List (Nat × TD), (∀ x ∈ l, TdOk Tryz.prog x.1 x.2) → ∀ t d, getT t l = some d → TdOk Tryz.prog t d := by
    intro l
    induction l with
    | nil => intro _ t d h; simp [getT] at h
    | cons x l ih =>
      intro hl t d h
      simp only [getT] at h
      split at h
      · rename_i e; subst e; cases h; exact hl x (by simp)
      · exact ih (fun y hy => hl y (by simp [hy])) t d h
  refine key tds fun x hx => ?_
  simp only [tds, List.mem_cons, List.not_mem_nil, or_false] at hx
  rcases hx with rfl | rfl | rfl | rfl | rfl | rfl | rfl | rfl | rfl | rfl | rfl | rfl | rfl | rfl | rfl | rfl | rfl | rfl | rfl | rfl | rfl | rfl | rfl | rfl | rfl | rfl | rfl | rfl | rfl | rfl | rfl | rfl | rfl
  · exact td2
  · exact td3
  · exact td4
  · exact td5
  · exact td6
  · exact td7
  · exact td8
  · exact td12
  · exact td21
  · exact td22
  · exact td23
  · exact td24
  · exact td25
  · exact td26
  · exact td27
  · exact td28
  · exact td29
  · exact td34
  · exact td35
  · exact td36
  · exact td38
  · exact td44
  · exact td46
  · exact td47
  · exact td48
  · exact td49
  · exact td68
  · exact td83
  · exact td84
  · exact td106
  · exact td107
  · exact td110
  · exact td111
theorem T_td : Tb.td 2 = some { size := 1, bytes := 8, agg := false, zero := [.int .i64 0], ik := some .i64 } ∧ Tb.td 3 = some { size := 1, bytes := 8, agg := false, zero := [.int .i64 0], ik := some .i64 } ∧ Tb.td 4 = some { size := 1, bytes := 1, agg := false, zero := [.bool false], isB := true } ∧ Tb.td 5 = some { size := 1, bytes := 1, agg := false, zero := [.int .u8 0], ik := some .u8 } ∧ Tb.td 6 = some { size := 1, bytes := 1, agg := false, zero := [.int .u8 0], ik := some .u8 } ∧ Tb.td 7 = some { size := 4, bytes := 24, agg := true, zero := [.int .i64 0, .int .i64 0, .bool false, .int .u8 0], flds := [(0, 2), (1, 3), (2, 4), (3, 6)], eqs := true } ∧ Tb.td 8 = some { size := 4, bytes := 24, agg := true, zero := [.int .i64 0, .int .i64 0, .bool false, .int .u8 0], flds := [(0, 2), (1, 3), (2, 4), (3, 6)], eqs := true } ∧ Tb.td 12 = some { size := 1, bytes := 8, agg := false, zero := [.int .u64 0], ik := some .u64 } ∧ Tb.td 21 = some { size := 1, bytes := 4, agg := false, zero := [.int .i32 0], ik := some .i32 } ∧ Tb.td 22 = some { size := 1, bytes := 24, agg := false, zero := [.sl 1 0 []], elem := some 36 } ∧ Tb.td 23 = some { size := 1, bytes := 24, agg := false, zero := [.sl 1 0 []], elem := some 84 } ∧ Tb.td 24 = some { size := 2, bytes := 32, agg := true, zero := [.bool false, .sl 1 0 []], flds := [(0, 4), (1, 23)] } ∧ Tb.td 25 = some { size := 2, bytes := 32, agg := true, zero := [.bool false, .sl 1 0 []], flds := [(0, 4), (1, 23)] } ∧ Tb.td 26 = some { size := 4, bytes := 64, agg := true, zero := [.bool false, .sl 1 0 [], .bool false, .sl 1 0 []], flds := [(0, 25), (2, 25)] } ∧ Tb.td 27 = some { size := 4, bytes := 64, agg := true, zero := [.bool false, .sl 1 0 [], .bool false, .sl 1 0 []], flds := [(0, 25), (2, 25)] } ∧ Tb.td 28 = some { size := 8, bytes := 128, agg := true, zero := [.bool false, .sl 1 0 [], .bool false, .sl 1 0 [], .bool false, .sl 1 0 [], .bool false, .sl 1 0 []], flds := [(0, 27), (4, 27)] } ∧ Tb.td 29 = some { size := 8, bytes := 128, agg := true, zero := [.bool false, .sl 1 0 [], .bool false, .sl 1 0 [], .bool false, .sl 1 0 [], .bool false, .sl 1 0 []], flds := [(0, 27), (4, 27)] } ∧ Tb.td 34 = some { size := 2, bytes := 16, agg := true, zero := [.int .i64 0, .int .i64 0], flds := [(0, 2), (1, 2)], eqs := true } ∧ Tb.td 35 = some { size := 2, bytes := 16, agg := true, zero := [.int .i64 0, .int .i64 0], flds := [(0, 2), (1, 2)], eqs := true } ∧ Tb.td 36 = some { size := 1, bytes := 24, agg := false, zero := [.sl 2 0 []], elem := some 35 } ∧ Tb.td 38 = some { size := 1, bytes := 8, agg := false, zero := [.int .i64 0], ik := some .i64 } ∧ Tb.td 44 = some { size := 1, bytes := 24, agg := false, zero := [.sl 7 0 []], elem := some 49 } ∧ Tb.td 46 = some { size := 3, bytes := 24, agg := true, zero := [.int .i64 0, .int .i64 0, .int .i64 0], flds := [(0, 2), (1, 2), (2, 2)], eqs := true } ∧ Tb.td 47 = some { size := 3, bytes := 24, agg := true, zero := [.int .i64 0, .int .i64 0, .int .i64 0], flds := [(0, 2), (1, 2), (2, 2)], eqs := true } ∧ Tb.td 48 = some { size := 7, bytes := 56, agg := true, zero := [.int .i64 0, .int .i64 0, .int .i64 0, .int .i64 0, .int .i64 0, .int .i64 0, .int .i64 0], flds := [(0, 3), (1, 47), (4, 35), (6, 2)], eqs := true } ∧ Tb.td 49 = some { size := 7, bytes := 56, agg := true, zero := [.int .i64 0, .int .i64 0, .int .i64 0, .int .i64 0, .int .i64 0, .int .i64 0, .int .i64 0], flds := [(0, 3), (1, 47), (4, 35), (6, 2)], eqs := true } ∧ Tb.td 68 = some { size := 1, bytes := 24, agg := false, zero := [.sl 4 0 []], elem := some 27 } ∧ Tb.td 83 = some { size := 1, bytes := 8, agg := false, zero := [.int .u64 0], ik := some .u64 } ∧ Tb.td 84 = some { size := 1, bytes := 4, agg := false, zero := [.int .u32 0], ik := some .u32 } ∧ Tb.td 106 = some { size := 1, bytes := 1, agg := false, zero := [.int .u8 0], ik := some .u8 } ∧ Tb.td 107 = some { size := 1, bytes := 1, agg := false, zero := [.int .u8 0], ik := some .u8 } ∧ Tb.td 110 = some { size := 1, bytes := 4, agg := false, zero := [.int .i32 0], ik := some .i32 } ∧ Tb.td 111 = some { size := 1, bytes := 4, agg := false, zero := [.int .i32 0], ik := some .i32 } := by
  repeat' (first | refine ⟨rfl, ?_⟩ | rfl)
theorem T_esz : Tb.esz 22 = some 1 ∧ Tb.esz 23 = some 1 ∧ Tb.esz 36 = some 2 ∧ Tb.esz 44 = some 7 ∧ Tb.esz 68 = some 4 := by
  repeat' (first | refine ⟨rfl, ?_⟩ | rfl)
theorem T_mu : Tb.mu 0 = none ∧ Tb.mu 1 = none ∧ Tb.mu 2 = none ∧ Tb.mu 3 = none ∧ Tb.mu 4 = none ∧ Tb.mu 5 = none ∧ Tb.mu 6 = none ∧ Tb.mu 7 = none ∧ Tb.mu 8 = none ∧ Tb.mu 9 = none ∧ Tb.mu 10 = none ∧ Tb.mu 11 = none ∧ Tb.mu 12 = none ∧ Tb.mu 13 = none ∧ Tb.mu 14 = none ∧ Tb.mu 15 = none ∧ Tb.mu 16 = none ∧ Tb.mu 17 = none ∧ Tb.mu 18 = none ∧ Tb.mu 19 = none ∧ Tb.mu 20 = none ∧ Tb.mu 21 = none ∧ Tb.mu 22 = none ∧ Tb.mu 23 = none ∧ Tb.mu 24 = none ∧ Tb.mu 25 = none ∧ Tb.mu 26 = none ∧ Tb.mu 27 = none ∧ Tb.mu 28 = none ∧ Tb.mu 29 = none ∧ Tb.mu 30 = none ∧ Tb.mu 31 = none ∧ Tb.mu 32 = none ∧ Tb.mu 33 = none ∧ Tb.mu 34 = none ∧ Tb.mu 35 = none ∧ Tb.mu 36 = none ∧ Tb.mu 37 = none ∧ Tb.mu 38 = none ∧ Tb.mu 39 = none ∧ Tb.mu 40 = none ∧ Tb.mu 41 = none ∧ Tb.mu 42 = none ∧ Tb.mu 43 = none ∧ Tb.mu 44 = none ∧ Tb.mu 45 = none ∧ Tb.mu 46 = none ∧ Tb.mu 47 = none ∧ Tb.mu 48 = none ∧ Tb.mu 49 = none ∧ Tb.mu 50 = none ∧ Tb.mu 51 = none ∧ Tb.mu 52 = none ∧ Tb.mu 53 = none ∧ Tb.mu 54 = none ∧ Tb.mu 55 = none ∧ Tb.mu 56 = none ∧ Tb.mu 57 = none ∧ Tb.mu 58 = none ∧ Tb.mu 59 = none ∧ Tb.mu 60 = none ∧ Tb.mu 61 = none ∧ Tb.mu 62 = none ∧ Tb.mu 63 = none ∧ Tb.mu 64 = none ∧ Tb.mu 65 = none ∧ Tb.mu 66 = none ∧ Tb.mu 67 = none ∧ Tb.mu 68 = none ∧ Tb.mu 69 = none ∧ Tb.mu 70 = none ∧ Tb.mu 71 = none ∧ Tb.mu 72 = none ∧ Tb.mu 73 = none ∧ Tb.mu 74 = none ∧ Tb.mu 75 = none ∧ Tb.mu 76 = none ∧ Tb.mu 77 = none ∧ Tb.mu 78 = none ∧ Tb.mu 79 = none ∧ Tb.mu 80 = none ∧ Tb.mu 81 = none ∧ Tb.mu 82 = none ∧ Tb.mu 83 = none ∧ Tb.mu 84 = none ∧ Tb.mu 85 = none ∧ Tb.mu 86 = none ∧ Tb.mu 87 = none ∧ Tb.mu 88 = none ∧ Tb.mu 89 = none ∧ Tb.mu 90 = none ∧ Tb.mu 91 = none ∧ Tb.mu 92 = none ∧ Tb.mu 93 = none ∧ Tb.mu 94 = none ∧ Tb.mu 95 = none ∧ Tb.mu 96 = none ∧ Tb.mu 97 = none ∧ Tb.mu 98 = none ∧ Tb.mu 99 = none ∧ Tb.mu 100 = some 0 ∧ Tb.mu 101 = some 0 ∧ Tb.mu 102 = none ∧ Tb.mu 103 = none ∧ Tb.mu 104 = none ∧ Tb.mu 105 = none ∧ Tb.mu 106 = none ∧ Tb.mu 107 = none ∧ Tb.mu 108 = none ∧ Tb.mu 109 = none ∧ Tb.mu 110 = none ∧ Tb.mu 111 = none ∧ Tb.mu 112 = none ∧ Tb.mu 113 = none ∧ Tb.mu 114 = none ∧ Tb.mu 115 = none ∧ Tb.mu 116 = none ∧ Tb.mu 117 = none ∧ Tb.mu 118 = none ∧ Tb.mu 119 = none ∧ Tb.mu 120 = none ∧ Tb.mu 121 = none ∧ Tb.mu 122 = none ∧ Tb.mu 123 = none ∧ Tb.mu 124 = none := by
  repeat' (first | refine ⟨rfl, ?_⟩ | rfl)
theorem T_bo : Tb.bo 0 = true ∧ Tb.bo 1 = true ∧ Tb.bo 2 = true ∧ Tb.bo 3 = true ∧ Tb.bo 4 = true ∧ Tb.bo 5 = true ∧ Tb.bo 6 = true ∧ Tb.bo 7 = true ∧ Tb.bo 8 = true ∧ Tb.bo 9 = true ∧ Tb.bo 10 = true ∧ Tb.bo 11 = true ∧ Tb.bo 12 = false ∧ Tb.bo 13 = true ∧ Tb.bo 14 = false ∧ Tb.bo 15 = false ∧ Tb.bo 16 = false ∧ Tb.bo 17 = true ∧ Tb.bo 18 = false ∧ Tb.bo 19 = false ∧ Tb.bo 20 = true ∧ Tb.bo 21 = false ∧ Tb.bo 22 = false ∧ Tb.bo 23 = true ∧ Tb.bo 24 = false ∧ Tb.bo 25 = true ∧ Tb.bo 26 = false ∧ Tb.bo 27 = false ∧ Tb.bo 28 = false ∧ Tb.bo 29 = true ∧ Tb.bo 30 = true ∧ Tb.bo 31 = true ∧ Tb.bo 32 = false ∧ Tb.bo 33 = false ∧ Tb.bo 34 = true ∧ Tb.bo 35 = false ∧ Tb.bo 36 = false ∧ Tb.bo 37 = false ∧ Tb.bo 38 = true ∧ Tb.bo 39 = true ∧ Tb.bo 40 = true ∧ Tb.bo 41 = false ∧ Tb.bo 42 = true ∧ Tb.bo 43 = false ∧ Tb.bo 44 = false ∧ Tb.bo 45 = true ∧ Tb.bo 46 = false ∧ Tb.bo 47 = false ∧ Tb.bo 48 = true ∧ Tb.bo 49 = false ∧ Tb.bo 50 = true ∧ Tb.bo 51 = false ∧ Tb.bo 52 = false ∧ Tb.bo 53 = true ∧ Tb.bo 54 = true ∧ Tb.bo 55 = false ∧ Tb.bo 56 = false ∧ Tb.bo 57 = false ∧ Tb.bo 58 = false ∧ Tb.bo 59 = false ∧ Tb.bo 60 = false ∧ Tb.bo 61 = false ∧ Tb.bo 62 = false ∧ Tb.bo 63 = false ∧ Tb.bo 64 = true ∧ Tb.bo 65 = true ∧ Tb.bo 66 = false ∧ Tb.bo 67 = false ∧ Tb.bo 68 = false ∧ Tb.bo 69 = false ∧ Tb.bo 70 = false ∧ Tb.bo 71 = false ∧ Tb.bo 72 = false ∧ Tb.bo 73 = false ∧ Tb.bo 74 = false ∧ Tb.bo 75 = false ∧ Tb.bo 76 = false ∧ Tb.bo 77 = true ∧ Tb.bo 78 = false ∧ Tb.bo 79 = false ∧ Tb.bo 80 = false ∧ Tb.bo 81 = false ∧ Tb.bo 82 = true ∧ Tb.bo 83 = true ∧ Tb.bo 84 = false ∧ Tb.bo 85 = false ∧ Tb.bo 86 = false ∧ Tb.bo 87 = false ∧ Tb.bo 88 = false ∧ Tb.bo 89 = false ∧ Tb.bo 90 = false ∧ Tb.bo 91 = false ∧ Tb.bo 92 = false ∧ Tb.bo 93 = false ∧ Tb.bo 94 = false ∧ Tb.bo 95 = false ∧ Tb.bo 96 = false ∧ Tb.bo 97 = false ∧ Tb.bo 98 = false ∧ Tb.bo 99 = false ∧ Tb.bo 100 = true ∧ Tb.bo 101 = true ∧ Tb.bo 102 = false ∧ Tb.bo 103 = false ∧ Tb.bo 104 = false ∧ Tb.bo 105 = false ∧ Tb.bo 106 = false ∧ Tb.bo 107 = false ∧ Tb.bo 108 = false ∧ Tb.bo 109 = true ∧ Tb.bo 110 = false ∧ Tb.bo 111 = true ∧ Tb.bo 112 = false ∧ Tb.bo 113 = true ∧ Tb.bo 114 = false ∧ Tb.bo 115 = true ∧ Tb.bo 116 = false ∧ Tb.bo 117 = true ∧ Tb.bo 118 = false ∧ Tb.bo 119 = true ∧ Tb.bo 120 = true ∧ Tb.bo 121 = false ∧ Tb.bo 122 = true ∧ Tb.bo 123 = false ∧ Tb.bo 124 = false := by
  repeat' (first | refine ⟨rfl, ?_⟩ | rfl)
theorem T_js : Tb.js = [] := rfl
attribute [go_sem] T_td T_esz T_mu T_bo T_js
theorem mo : Tryz.prog.follows .mixedOrders = true := by kernel_rfl
end Go.Proofs.YtdhgdpcmdmgchaaGreat.Fw
