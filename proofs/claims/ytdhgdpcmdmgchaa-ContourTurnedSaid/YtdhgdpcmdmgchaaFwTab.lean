/- The table of this program's types, printed by a program of this claim. Conditions: none. -/
import Derived.Test.YtdhgdpcmdmgchaaFwR
import Derived.Test.YtdhgdpcmdmgchaaProg
namespace Go.Proofs.Ytdhgdpcmdmgchaa.Fw
open Go
set_option linter.unusedSimpArgs false
set_option linter.unusedVariables false

def d2 : TD := { size := 1, bytes := 8, agg := false, zero := [.int .i64 0], ik := some .i64 }
theorem td2 : TdOk Try.prog 2 d2 :=
  { eqs := by simp [d2], info := ⟨Try.t2, _, Try.type2, rfl, rfl, rfl, rfl⟩, zl := rfl, zp := by simp [d2, L.plain], pos := by simp [d2],
    und := ⟨_, Try.underlying2, rfl, by simp [d2], by intro k h; simp [d2] at h; subst h; rfl, by simp [d2], by simp [d2]⟩ }
def d3 : TD := { size := 1, bytes := 8, agg := false, zero := [.int .i64 0], ik := some .i64 }
theorem td3 : TdOk Try.prog 3 d3 :=
  { eqs := by simp [d3], info := ⟨Try.t3, _, Try.type3, rfl, rfl, rfl, rfl⟩, zl := rfl, zp := by simp [d3, L.plain], pos := by simp [d3],
    und := ⟨_, Try.underlying3, rfl, by simp [d3], by intro k h; simp [d3] at h; subst h; rfl, by simp [d3], by simp [d3]⟩ }
def d4 : TD := { size := 1, bytes := 1, agg := false, zero := [.bool false], isB := true }
theorem td4 : TdOk Try.prog 4 d4 :=
  { eqs := by simp [d4], info := ⟨Try.t4, _, Try.type4, rfl, rfl, rfl, rfl⟩, zl := rfl, zp := by simp [d4, L.plain], pos := by simp [d4],
    und := ⟨_, Try.underlying4, rfl, by simp [d4], by simp [d4], fun _ => rfl, by simp [d4]⟩ }
def d5 : TD := { size := 1, bytes := 1, agg := false, zero := [.int .u8 0], ik := some .u8 }
theorem td5 : TdOk Try.prog 5 d5 :=
  { eqs := by simp [d5], info := ⟨Try.t5, _, Try.type5, rfl, rfl, rfl, rfl⟩, zl := rfl, zp := by simp [d5, L.plain], pos := by simp [d5],
    und := ⟨_, Try.underlying5, rfl, by simp [d5], by intro k h; simp [d5] at h; subst h; rfl, by simp [d5], by simp [d5]⟩ }
def d6 : TD := { size := 1, bytes := 1, agg := false, zero := [.int .u8 0], ik := some .u8 }
theorem td6 : TdOk Try.prog 6 d6 :=
  { eqs := by simp [d6], info := ⟨Try.t6, _, Try.type6, rfl, rfl, rfl, rfl⟩, zl := rfl, zp := by simp [d6, L.plain], pos := by simp [d6],
    und := ⟨_, Try.underlying6, rfl, by simp [d6], by intro k h; simp [d6] at h; subst h; rfl, by simp [d6], by simp [d6]⟩ }
def d7 : TD := { size := 4, bytes := 24, agg := true, zero := [.int .i64 0, .int .i64 0, .bool false, .int .u8 0], flds := [(0, 2), (1, 3), (2, 4), (3, 6)], eqs := true }
theorem td7 : TdOk Try.prog 7 d7 :=
  { eqs := fun _ => ⟨by kernel_rfl, by kernel_rfl, _, Try.underlying7, rfl, by simp⟩, info := ⟨Try.t7, _, Try.type7, rfl, rfl, rfl, rfl⟩, zl := rfl, zp := by simp [d7, L.plain], pos := by simp [d7],
    und := ⟨_, Try.underlying7, rfl, by simp [d7], by simp [d7], by simp [d7], fun _ => ⟨_, rfl, rfl, by simp only [List.mem_cons, List.not_mem_nil, or_false]; intro f hf; rcases hf with rfl | rfl | rfl | rfl <;> exact ⟨_, rfl⟩⟩⟩ }
def d8 : TD := { size := 4, bytes := 24, agg := true, zero := [.int .i64 0, .int .i64 0, .bool false, .int .u8 0], flds := [(0, 2), (1, 3), (2, 4), (3, 6)], eqs := true }
theorem td8 : TdOk Try.prog 8 d8 :=
  { eqs := fun _ => ⟨by kernel_rfl, by kernel_rfl, _, Try.underlying8, rfl, by simp⟩, info := ⟨Try.t8, _, Try.type8, rfl, rfl, rfl, rfl⟩, zl := rfl, zp := by simp [d8, L.plain], pos := by simp [d8],
    und := ⟨_, Try.underlying8, rfl, by simp [d8], by simp [d8], by simp [d8], fun _ => ⟨_, rfl, rfl, by simp only [List.mem_cons, List.not_mem_nil, or_false]; intro f hf; rcases hf with rfl | rfl | rfl | rfl <;> exact ⟨_, rfl⟩⟩⟩ }
def d12 : TD := { size := 1, bytes := 8, agg := false, zero := [.int .u64 0], ik := some .u64 }
theorem td12 : TdOk Try.prog 12 d12 :=
  { eqs := by simp [d12], info := ⟨Try.t12, _, Try.type12, rfl, rfl, rfl, rfl⟩, zl := rfl, zp := by simp [d12, L.plain], pos := by simp [d12],
    und := ⟨_, Try.underlying12, rfl, by simp [d12], by intro k h; simp [d12] at h; subst h; rfl, by simp [d12], by simp [d12]⟩ }
def d21 : TD := { size := 1, bytes := 4, agg := false, zero := [.int .i32 0], ik := some .i32 }
theorem td21 : TdOk Try.prog 21 d21 :=
  { eqs := by simp [d21], info := ⟨Try.t21, _, Try.type21, rfl, rfl, rfl, rfl⟩, zl := rfl, zp := by simp [d21, L.plain], pos := by simp [d21],
    und := ⟨_, Try.underlying21, rfl, by simp [d21], by intro k h; simp [d21] at h; subst h; rfl, by simp [d21], by simp [d21]⟩ }
def d22 : TD := { size := 1, bytes := 24, agg := false, zero := [.sl 2 0 []], elem := some 29 }
theorem td22 : TdOk Try.prog 22 d22 :=
  { eqs := by simp [d22], info := ⟨Try.t22, _, Try.type22, rfl, rfl, rfl, rfl⟩, zl := rfl, zp := by simp [d22, L.plain], pos := by simp [d22],
    und := ⟨_, Try.underlying22, rfl, by intro e h; simp [d22] at h; subst h; rfl, by simp [d22], by simp [d22], by simp [d22]⟩ }
def d25 : TD := { size := 1, bytes := 24, agg := false, zero := [.sl 7 0 []], elem := some 31 }
theorem td25 : TdOk Try.prog 25 d25 :=
  { eqs := by simp [d25], info := ⟨Try.t25, _, Try.type25, rfl, rfl, rfl, rfl⟩, zl := rfl, zp := by simp [d25, L.plain], pos := by simp [d25],
    und := ⟨_, Try.underlying25, rfl, by intro e h; simp [d25] at h; subst h; rfl, by simp [d25], by simp [d25], by simp [d25]⟩ }
def d26 : TD := { size := 3, bytes := 24, agg := true, zero := [.int .i64 0, .int .i64 0, .int .i64 0], flds := [(0, 2), (1, 2), (2, 2)], eqs := true }
theorem td26 : TdOk Try.prog 26 d26 :=
  { eqs := fun _ => ⟨by kernel_rfl, by kernel_rfl, _, Try.underlying26, rfl, by simp⟩, info := ⟨Try.t26, _, Try.type26, rfl, rfl, rfl, rfl⟩, zl := rfl, zp := by simp [d26, L.plain], pos := by simp [d26],
    und := ⟨_, Try.underlying26, rfl, by simp [d26], by simp [d26], by simp [d26], fun _ => ⟨_, rfl, rfl, by simp only [List.mem_cons, List.not_mem_nil, or_false]; intro f hf; rcases hf with rfl | rfl | rfl <;> exact ⟨_, rfl⟩⟩⟩ }
def d27 : TD := { size := 3, bytes := 24, agg := true, zero := [.int .i64 0, .int .i64 0, .int .i64 0], flds := [(0, 2), (1, 2), (2, 2)], eqs := true }
theorem td27 : TdOk Try.prog 27 d27 :=
  { eqs := fun _ => ⟨by kernel_rfl, by kernel_rfl, _, Try.underlying27, rfl, by simp⟩, info := ⟨Try.t27, _, Try.type27, rfl, rfl, rfl, rfl⟩, zl := rfl, zp := by simp [d27, L.plain], pos := by simp [d27],
    und := ⟨_, Try.underlying27, rfl, by simp [d27], by simp [d27], by simp [d27], fun _ => ⟨_, rfl, rfl, by simp only [List.mem_cons, List.not_mem_nil, or_false]; intro f hf; rcases hf with rfl | rfl | rfl <;> exact ⟨_, rfl⟩⟩⟩ }
def d28 : TD := { size := 2, bytes := 16, agg := true, zero := [.int .i64 0, .int .i64 0], flds := [(0, 2), (1, 2)], eqs := true }
theorem td28 : TdOk Try.prog 28 d28 :=
  { eqs := fun _ => ⟨by kernel_rfl, by kernel_rfl, _, Try.underlying28, rfl, by simp⟩, info := ⟨Try.t28, _, Try.type28, rfl, rfl, rfl, rfl⟩, zl := rfl, zp := by simp [d28, L.plain], pos := by simp [d28],
    und := ⟨_, Try.underlying28, rfl, by simp [d28], by simp [d28], by simp [d28], fun _ => ⟨_, rfl, rfl, by simp only [List.mem_cons, List.not_mem_nil, or_false]; intro f hf; rcases hf with rfl | rfl <;> exact ⟨_, rfl⟩⟩⟩ }
def d29 : TD := { size := 2, bytes := 16, agg := true, zero := [.int .i64 0, .int .i64 0], flds := [(0, 2), (1, 2)], eqs := true }
theorem td29 : TdOk Try.prog 29 d29 :=
  { eqs := fun _ => ⟨by kernel_rfl, by kernel_rfl, _, Try.underlying29, rfl, by simp⟩, info := ⟨Try.t29, _, Try.type29, rfl, rfl, rfl, rfl⟩, zl := rfl, zp := by simp [d29, L.plain], pos := by simp [d29],
    und := ⟨_, Try.underlying29, rfl, by simp [d29], by simp [d29], by simp [d29], fun _ => ⟨_, rfl, rfl, by simp only [List.mem_cons, List.not_mem_nil, or_false]; intro f hf; rcases hf with rfl | rfl <;> exact ⟨_, rfl⟩⟩⟩ }
def d30 : TD := { size := 7, bytes := 56, agg := true, zero := [.int .i64 0, .int .i64 0, .int .i64 0, .int .i64 0, .int .i64 0, .int .i64 0, .int .i64 0], flds := [(0, 3), (1, 27), (4, 29), (6, 2)], eqs := true }
theorem td30 : TdOk Try.prog 30 d30 :=
  { eqs := fun _ => ⟨by kernel_rfl, by kernel_rfl, _, Try.underlying30, rfl, by simp⟩, info := ⟨Try.t30, _, Try.type30, rfl, rfl, rfl, rfl⟩, zl := rfl, zp := by simp [d30, L.plain], pos := by simp [d30],
    und := ⟨_, Try.underlying30, rfl, by simp [d30], by simp [d30], by simp [d30], fun _ => ⟨_, rfl, rfl, by simp only [List.mem_cons, List.not_mem_nil, or_false]; intro f hf; rcases hf with rfl | rfl | rfl | rfl <;> exact ⟨_, rfl⟩⟩⟩ }
def d31 : TD := { size := 7, bytes := 56, agg := true, zero := [.int .i64 0, .int .i64 0, .int .i64 0, .int .i64 0, .int .i64 0, .int .i64 0, .int .i64 0], flds := [(0, 3), (1, 27), (4, 29), (6, 2)], eqs := true }
theorem td31 : TdOk Try.prog 31 d31 :=
  { eqs := fun _ => ⟨by kernel_rfl, by kernel_rfl, _, Try.underlying31, rfl, by simp⟩, info := ⟨Try.t31, _, Try.type31, rfl, rfl, rfl, rfl⟩, zl := rfl, zp := by simp [d31, L.plain], pos := by simp [d31],
    und := ⟨_, Try.underlying31, rfl, by simp [d31], by simp [d31], by simp [d31], fun _ => ⟨_, rfl, rfl, by simp only [List.mem_cons, List.not_mem_nil, or_false]; intro f hf; rcases hf with rfl | rfl | rfl | rfl <;> exact ⟨_, rfl⟩⟩⟩ }
def d35 : TD := { size := 1, bytes := 24, agg := false, zero := [.sl 1 0 []], elem := some 83 }
theorem td35 : TdOk Try.prog 35 d35 :=
  { eqs := by simp [d35], info := ⟨Try.t35, _, Try.type35, rfl, rfl, rfl, rfl⟩, zl := rfl, zp := by simp [d35, L.plain], pos := by simp [d35],
    und := ⟨_, Try.underlying35, rfl, by intro e h; simp [d35] at h; subst h; rfl, by simp [d35], by simp [d35], by simp [d35]⟩ }
def d36 : TD := { size := 2, bytes := 32, agg := true, zero := [.bool false, .sl 1 0 []], flds := [(0, 4), (1, 35)] }
theorem td36 : TdOk Try.prog 36 d36 :=
  { eqs := by simp [d36], info := ⟨Try.t36, _, Try.type36, rfl, rfl, rfl, rfl⟩, zl := rfl, zp := by simp [d36, L.plain], pos := by simp [d36],
    und := ⟨_, Try.underlying36, rfl, by simp [d36], by simp [d36], by simp [d36], fun _ => ⟨_, rfl, rfl, by simp only [List.mem_cons, List.not_mem_nil, or_false]; intro f hf; rcases hf with rfl | rfl <;> exact ⟨_, rfl⟩⟩⟩ }
def d37 : TD := { size := 2, bytes := 32, agg := true, zero := [.bool false, .sl 1 0 []], flds := [(0, 4), (1, 35)] }
theorem td37 : TdOk Try.prog 37 d37 :=
  { eqs := by simp [d37], info := ⟨Try.t37, _, Try.type37, rfl, rfl, rfl, rfl⟩, zl := rfl, zp := by simp [d37, L.plain], pos := by simp [d37],
    und := ⟨_, Try.underlying37, rfl, by simp [d37], by simp [d37], by simp [d37], fun _ => ⟨_, rfl, rfl, by simp only [List.mem_cons, List.not_mem_nil, or_false]; intro f hf; rcases hf with rfl | rfl <;> exact ⟨_, rfl⟩⟩⟩ }
def d38 : TD := { size := 4, bytes := 64, agg := true, zero := [.bool false, .sl 1 0 [], .bool false, .sl 1 0 []], flds := [(0, 37), (2, 37)] }
theorem td38 : TdOk Try.prog 38 d38 :=
  { eqs := by simp [d38], info := ⟨Try.t38, _, Try.type38, rfl, rfl, rfl, rfl⟩, zl := rfl, zp := by simp [d38, L.plain], pos := by simp [d38],
    und := ⟨_, Try.underlying38, rfl, by simp [d38], by simp [d38], by simp [d38], fun _ => ⟨_, rfl, rfl, by simp only [List.mem_cons, List.not_mem_nil, or_false]; intro f hf; rcases hf with rfl | rfl <;> exact ⟨_, rfl⟩⟩⟩ }
def d39 : TD := { size := 4, bytes := 64, agg := true, zero := [.bool false, .sl 1 0 [], .bool false, .sl 1 0 []], flds := [(0, 37), (2, 37)] }
theorem td39 : TdOk Try.prog 39 d39 :=
  { eqs := by simp [d39], info := ⟨Try.t39, _, Try.type39, rfl, rfl, rfl, rfl⟩, zl := rfl, zp := by simp [d39, L.plain], pos := by simp [d39],
    und := ⟨_, Try.underlying39, rfl, by simp [d39], by simp [d39], by simp [d39], fun _ => ⟨_, rfl, rfl, by simp only [List.mem_cons, List.not_mem_nil, or_false]; intro f hf; rcases hf with rfl | rfl <;> exact ⟨_, rfl⟩⟩⟩ }
def d40 : TD := { size := 8, bytes := 128, agg := true, zero := [.bool false, .sl 1 0 [], .bool false, .sl 1 0 [], .bool false, .sl 1 0 [], .bool false, .sl 1 0 []], flds := [(0, 39), (4, 39)] }
theorem td40 : TdOk Try.prog 40 d40 :=
  { eqs := by simp [d40], info := ⟨Try.t40, _, Try.type40, rfl, rfl, rfl, rfl⟩, zl := rfl, zp := by simp [d40, L.plain], pos := by simp [d40],
    und := ⟨_, Try.underlying40, rfl, by simp [d40], by simp [d40], by simp [d40], fun _ => ⟨_, rfl, rfl, by simp only [List.mem_cons, List.not_mem_nil, or_false]; intro f hf; rcases hf with rfl | rfl <;> exact ⟨_, rfl⟩⟩⟩ }
def d41 : TD := { size := 8, bytes := 128, agg := true, zero := [.bool false, .sl 1 0 [], .bool false, .sl 1 0 [], .bool false, .sl 1 0 [], .bool false, .sl 1 0 []], flds := [(0, 39), (4, 39)] }
theorem td41 : TdOk Try.prog 41 d41 :=
  { eqs := by simp [d41], info := ⟨Try.t41, _, Try.type41, rfl, rfl, rfl, rfl⟩, zl := rfl, zp := by simp [d41, L.plain], pos := by simp [d41],
    und := ⟨_, Try.underlying41, rfl, by simp [d41], by simp [d41], by simp [d41], fun _ => ⟨_, rfl, rfl, by simp only [List.mem_cons, List.not_mem_nil, or_false]; intro f hf; rcases hf with rfl | rfl <;> exact ⟨_, rfl⟩⟩⟩ }
def d46 : TD := { size := 1, bytes := 8, agg := false, zero := [.int .i64 0], ik := some .i64 }
theorem td46 : TdOk Try.prog 46 d46 :=
  { eqs := by simp [d46], info := ⟨Try.t46, _, Try.type46, rfl, rfl, rfl, rfl⟩, zl := rfl, zp := by simp [d46, L.plain], pos := by simp [d46],
    und := ⟨_, Try.underlying46, rfl, by simp [d46], by intro k h; simp [d46] at h; subst h; rfl, by simp [d46], by simp [d46]⟩ }
def d50 : TD := { size := 1, bytes := 24, agg := false, zero := [.sl 1 0 []], elem := some 22 }
theorem td50 : TdOk Try.prog 50 d50 :=
  { eqs := by simp [d50], info := ⟨Try.t50, _, Try.type50, rfl, rfl, rfl, rfl⟩, zl := rfl, zp := by simp [d50, L.plain], pos := by simp [d50],
    und := ⟨_, Try.underlying50, rfl, by intro e h; simp [d50] at h; subst h; rfl, by simp [d50], by simp [d50], by simp [d50]⟩ }
def d68 : TD := { size := 1, bytes := 8, agg := false, zero := [.int .u64 0], ik := some .u64 }
theorem td68 : TdOk Try.prog 68 d68 :=
  { eqs := by simp [d68], info := ⟨Try.t68, _, Try.type68, rfl, rfl, rfl, rfl⟩, zl := rfl, zp := by simp [d68, L.plain], pos := by simp [d68],
    und := ⟨_, Try.underlying68, rfl, by simp [d68], by intro k h; simp [d68] at h; subst h; rfl, by simp [d68], by simp [d68]⟩ }
def d75 : TD := { size := 1, bytes := 24, agg := false, zero := [.sl 4 0 []], elem := some 39 }
theorem td75 : TdOk Try.prog 75 d75 :=
  { eqs := by simp [d75], info := ⟨Try.t75, _, Try.type75, rfl, rfl, rfl, rfl⟩, zl := rfl, zp := by simp [d75, L.plain], pos := by simp [d75],
    und := ⟨_, Try.underlying75, rfl, by intro e h; simp [d75] at h; subst h; rfl, by simp [d75], by simp [d75], by simp [d75]⟩ }
def d83 : TD := { size := 1, bytes := 4, agg := false, zero := [.int .u32 0], ik := some .u32 }
theorem td83 : TdOk Try.prog 83 d83 :=
  { eqs := by simp [d83], info := ⟨Try.t83, _, Try.type83, rfl, rfl, rfl, rfl⟩, zl := rfl, zp := by simp [d83, L.plain], pos := by simp [d83],
    und := ⟨_, Try.underlying83, rfl, by simp [d83], by intro k h; simp [d83] at h; subst h; rfl, by simp [d83], by simp [d83]⟩ }
def d109 : TD := { size := 1, bytes := 1, agg := false, zero := [.int .u8 0], ik := some .u8 }
theorem td109 : TdOk Try.prog 109 d109 :=
  { eqs := by simp [d109], info := ⟨Try.t109, _, Try.type109, rfl, rfl, rfl, rfl⟩, zl := rfl, zp := by simp [d109, L.plain], pos := by simp [d109],
    und := ⟨_, Try.underlying109, rfl, by simp [d109], by intro k h; simp [d109] at h; subst h; rfl, by simp [d109], by simp [d109]⟩ }
def d110 : TD := { size := 1, bytes := 1, agg := false, zero := [.int .u8 0], ik := some .u8 }
theorem td110 : TdOk Try.prog 110 d110 :=
  { eqs := by simp [d110], info := ⟨Try.t110, _, Try.type110, rfl, rfl, rfl, rfl⟩, zl := rfl, zp := by simp [d110, L.plain], pos := by simp [d110],
    und := ⟨_, Try.underlying110, rfl, by simp [d110], by intro k h; simp [d110] at h; subst h; rfl, by simp [d110], by simp [d110]⟩ }
def d113 : TD := { size := 1, bytes := 4, agg := false, zero := [.int .i32 0], ik := some .i32 }
theorem td113 : TdOk Try.prog 113 d113 :=
  { eqs := by simp [d113], info := ⟨Try.t113, _, Try.type113, rfl, rfl, rfl, rfl⟩, zl := rfl, zp := by simp [d113, L.plain], pos := by simp [d113],
    und := ⟨_, Try.underlying113, rfl, by simp [d113], by intro k h; simp [d113] at h; subst h; rfl, by simp [d113], by simp [d113]⟩ }
def d114 : TD := { size := 1, bytes := 4, agg := false, zero := [.int .i32 0], ik := some .i32 }
theorem td114 : TdOk Try.prog 114 d114 :=
  { eqs := by simp [d114], info := ⟨Try.t114, _, Try.type114, rfl, rfl, rfl, rfl⟩, zl := rfl, zp := by simp [d114, L.plain], pos := by simp [d114],
    und := ⟨_, Try.underlying114, rfl, by simp [d114], by intro k h; simp [d114] at h; subst h; rfl, by simp [d114], by simp [d114]⟩ }
def tds : List (Nat × TD) := [(2, d2), (3, d3), (4, d4), (5, d5), (6, d6), (7, d7), (8, d8), (12, d12), (21, d21), (22, d22), (25, d25), (26, d26), (27, d27), (28, d28), (29, d29), (30, d30), (31, d31), (35, d35), (36, d36), (37, d37), (38, d38), (39, d39), (40, d40), (41, d41), (46, d46), (50, d50), (68, d68), (75, d75), (83, d83), (109, d109), (110, d110), (113, d113), (114, d114)]
def getT (t : Nat) : List (Nat × TD) → Option TD
  | [] => none
  | (u, d) :: l => if t = u then some d else getT t l
def muOf : List (Nat × Nat) := [(26, 0), (102, 0), (103, 0)]
def boOf : List Nat := [0, 1, 2, 3, 4, 5, 6, 10, 11, 13, 15, 16, 19, 20, 25, 26, 27, 29, 33, 37, 41, 47, 48, 53, 54, 58, 59, 60, 75, 82, 84, 95, 102, 103, 105, 107, 109, 111, 113, 115, 116, 118]
def getM (f : Nat) : List (Nat × Nat) → Option Nat
  | [] => none
  | (u, d) :: l => if f = u then some d else getM f l
def Tb : Tab := { td := fun t => getT t tds, mu := fun f => getM f muOf, bo := fun f => boOf.contains f }
theorem tb_ok : TabOk Try.prog Tb := by
  have key : ∀ l : List (Nat × TD), (∀ x ∈ l, TdOk Try.prog x.1 x.2) → ∀ t d, getT t l = some d → TdOk Try.prog t d := by
    intro l
    induction l with
    | nil => intro _ t d h; simp [getT] at h
    | cons x l ih =>
      intro hl t d h
      simp only [getT] at h
      split at h
      · rename_i e; subst e; cases h; exact hl x (by simp)
      · exact ih (fun y hy => hl y (by simp [hy])) t d h
  refine key tds fun x hx => ?_
  simp only [tds, List.mem_cons, List.not_mem_nil, or_false] at hx
  rcases hx with rfl | rfl | rfl | rfl | rfl | rfl | rfl | rfl | rfl | rfl | rfl | rfl | rfl | rfl | rfl | rfl | rfl | rfl | rfl | rfl | rfl | rfl | rfl | rfl | rfl | rfl | rfl | rfl | rfl | rfl | rfl | rfl | rfl
  · exact td2
  · exact td3
  · exact td4
  · exact td5
  · exact td6
  · exact td7
  · exact td8
  · exact td12
  · exact td21
  · exact td22
  · exact td25
  · exact td26
  · exact td27
  · exact td28
  · exact td29
  · exact td30
  · exact td31
  · exact td35
  · exact td36
  · exact td37
  · exact td38
  · exact td39
  · exact td40
  · exact td41
  · exact td46
  · exact td50
  · exact td68
  · exact td75
  · exact td83
  · exact td109
  · exact td110
  · exact td113
  · exact td114
theorem T_td : Tb.td 2 = some { size := 1, bytes := 8, agg := false, zero := [.int .i64 0], ik := some .i64 } ∧ Tb.td 3 = some { size := 1, bytes := 8, agg := false, zero := [.int .i64 0], ik := some .i64 } ∧ Tb.td 4 = some { size := 1, bytes := 1, agg := false, zero := [.bool false], isB := true } ∧ Tb.td 5 = some { size := 1, bytes := 1, agg := false, zero := [.int .u8 0], ik := some .u8 } ∧ Tb.td 6 = some { size := 1, bytes := 1, agg := false, zero := [.int .u8 0], ik := some .u8 } ∧ Tb.td 7 = some { size := 4, bytes := 24, agg := true, zero := [.int .i64 0, .int .i64 0, .bool false, .int .u8 0], flds := [(0, 2), (1, 3), (2, 4), (3, 6)], eqs := true } ∧ Tb.td 8 = some { size := 4, bytes := 24, agg := true, zero := [.int .i64 0, .int .i64 0, .bool false, .int .u8 0], flds := [(0, 2), (1, 3), (2, 4), (3, 6)], eqs := true } ∧ Tb.td 12 = some { size := 1, bytes := 8, agg := false, zero := [.int .u64 0], ik := some .u64 } ∧ Tb.td 21 = some { size := 1, bytes := 4, agg := false, zero := [.int .i32 0], ik := some .i32 } ∧ Tb.td 22 = some { size := 1, bytes := 24, agg := false, zero := [.sl 2 0 []], elem := some 29 } ∧ Tb.td 25 = some { size := 1, bytes := 24, agg := false, zero := [.sl 7 0 []], elem := some 31 } ∧ Tb.td 26 = some { size := 3, bytes := 24, agg := true, zero := [.int .i64 0, .int .i64 0, .int .i64 0], flds := [(0, 2), (1, 2), (2, 2)], eqs := true } ∧ Tb.td 27 = some { size := 3, bytes := 24, agg := true, zero := [.int .i64 0, .int .i64 0, .int .i64 0], flds := [(0, 2), (1, 2), (2, 2)], eqs := true } ∧ Tb.td 28 = some { size := 2, bytes := 16, agg := true, zero := [.int .i64 0, .int .i64 0], flds := [(0, 2), (1, 2)], eqs := true } ∧ Tb.td 29 = some { size := 2, bytes := 16, agg := true, zero := [.int .i64 0, .int .i64 0], flds := [(0, 2), (1, 2)], eqs := true } ∧ Tb.td 30 = some { size := 7, bytes := 56, agg := true, zero := [.int .i64 0, .int .i64 0, .int .i64 0, .int .i64 0, .int .i64 0, .int .i64 0, .int .i64 0], flds := [(0, 3), (1, 27), (4, 29), (6, 2)], eqs := true } ∧ Tb.td 31 = some { size := 7, bytes := 56, agg := true, zero := [.int .i64 0, .int .i64 0, .int .i64 0, .int .i64 0, .int .i64 0, .int .i64 0, .int .i64 0], flds := [(0, 3), (1, 27), (4, 29), (6, 2)], eqs := true } ∧ Tb.td 35 = some { size := 1, bytes := 24, agg := false, zero := [.sl 1 0 []], elem := some 83 } ∧ Tb.td 36 = some { size := 2, bytes := 32, agg := true, zero := [.bool false, .sl 1 0 []], flds := [(0, 4), (1, 35)] } ∧ Tb.td 37 = some { size := 2, bytes := 32, agg := true, zero := [.bool false, .sl 1 0 []], flds := [(0, 4), (1, 35)] } ∧ Tb.td 38 = some { size := 4, bytes := 64, agg := true, zero := [.bool false, .sl 1 0 [], .bool false, .sl 1 0 []], flds := [(0, 37), (2, 37)] } ∧ Tb.td 39 = some { size := 4, bytes := 64, agg := true, zero := [.bool false, .sl 1 0 [], .bool false, .sl 1 0 []], flds := [(0, 37), (2, 37)] } ∧ Tb.td 40 = some { size := 8, bytes := 128, agg := true, zero := [.bool false, .sl 1 0 [], .bool false, .sl 1 0 [], .bool false, .sl 1 0 [], .bool false, .sl 1 0 []], flds := [(0, 39), (4, 39)] } ∧ Tb.td 41 = some { size := 8, bytes := 128, agg := true, zero := [.bool false, .sl 1 0 [], .bool false, .sl 1 0 [], .bool false, .sl 1 0 [], .bool false, .sl 1 0 []], flds := [(0, 39), (4, 39)] } ∧ Tb.td 46 = some { size := 1, bytes := 8, agg := false, zero := [.int .i64 0], ik := some .i64 } ∧ Tb.td 50 = some { size := 1, bytes := 24, agg := false, zero := [.sl 1 0 []], elem := some 22 } ∧ Tb.td 68 = some { size := 1, bytes := 8, agg := false, zero := [.int .u64 0], ik := some .u64 } ∧ Tb.td 75 = some { size := 1, bytes := 24, agg := false, zero := [.sl 4 0 []], elem := some 39 } ∧ Tb.td 83 = some { size := 1, bytes := 4, agg := false, zero := [.int .u32 0], ik := some .u32 } ∧ Tb.td 109 = some { size := 1, bytes := 1, agg := false, zero := [.int .u8 0], ik := some .u8 } ∧ Tb.td 110 = some { size := 1, bytes := 1, agg := false, zero := [.int .u8 0], ik := some .u8 } ∧ Tb.td 113 = some { size := 1, bytes := 4, agg := false, zero := [.int .i32 0], ik := some .i32 } ∧ Tb.td 114 = some { size := 1, bytes := 4, agg := false, zero := [.int .i32 0], ik := some .i32 } := by
  repeat' (first | refine ⟨rfl, ?_⟩ | rfl)
theorem T_esz : Tb.esz 22 = some 2 ∧ Tb.esz 25 = some 7 ∧ Tb.esz 35 = some 1 ∧ Tb.esz 50 = some 1 ∧ Tb.esz 75 = some 4 := by
  repeat' (first | refine ⟨rfl, ?_⟩ | rfl)
theorem T_mu : Tb.mu 0 = none ∧ Tb.mu 1 = none ∧ Tb.mu 2 = none ∧ Tb.mu 3 = none ∧ Tb.mu 4 = none ∧ Tb.mu 5 = none ∧ Tb.mu 6 = none ∧ Tb.mu 7 = none ∧ Tb.mu 8 = none ∧ Tb.mu 9 = none ∧ Tb.mu 10 = none ∧ Tb.mu 11 = none ∧ Tb.mu 12 = none ∧ Tb.mu 13 = none ∧ Tb.mu 14 = none ∧ Tb.mu 15 = none ∧ Tb.mu 16 = none ∧ Tb.mu 17 = none ∧ Tb.mu 18 = none ∧ Tb.mu 19 = none ∧ Tb.mu 20 = none ∧ Tb.mu 21 = none ∧ Tb.mu 22 = none ∧ Tb.mu 23 = none ∧ Tb.mu 24 = none ∧ Tb.mu 25 = none ∧ Tb.mu 26 = some 0 ∧ Tb.mu 27 = none ∧ Tb.mu 28 = none ∧ Tb.mu 29 = none ∧ Tb.mu 30 = none ∧ Tb.mu 31 = none ∧ Tb.mu 32 = none ∧ Tb.mu 33 = none ∧ Tb.mu 34 = none ∧ Tb.mu 35 = none ∧ Tb.mu 36 = none ∧ Tb.mu 37 = none ∧ Tb.mu 38 = none ∧ Tb.mu 39 = none ∧ Tb.mu 40 = none ∧ Tb.mu 41 = none ∧ Tb.mu 42 = none ∧ Tb.mu 43 = none ∧ Tb.mu 44 = none ∧ Tb.mu 45 = none ∧ Tb.mu 46 = none ∧ Tb.mu 47 = none ∧ Tb.mu 48 = none ∧ Tb.mu 49 = none ∧ Tb.mu 50 = none ∧ Tb.mu 51 = none ∧ Tb.mu 52 = none ∧ Tb.mu 53 = none ∧ Tb.mu 54 = none ∧ Tb.mu 55 = none ∧ Tb.mu 56 = none ∧ Tb.mu 57 = none ∧ Tb.mu 58 = none ∧ Tb.mu 59 = none ∧ Tb.mu 60 = none ∧ Tb.mu 61 = none ∧ Tb.mu 62 = none ∧ Tb.mu 63 = none ∧ Tb.mu 64 = none ∧ Tb.mu 65 = none ∧ Tb.mu 66 = none ∧ Tb.mu 67 = none ∧ Tb.mu 68 = none ∧ Tb.mu 69 = none ∧ Tb.mu 70 = none ∧ Tb.mu 71 = none ∧ Tb.mu 72 = none ∧ Tb.mu 73 = none ∧ Tb.mu 74 = none ∧ Tb.mu 75 = none ∧ Tb.mu 76 = none ∧ Tb.mu 77 = none ∧ Tb.mu 78 = none ∧ Tb.mu 79 = none ∧ Tb.mu 80 = none ∧ Tb.mu 81 = none ∧ Tb.mu 82 = none ∧ Tb.mu 83 = none ∧ Tb.mu 84 = none ∧ Tb.mu 85 = none ∧ Tb.mu 86 = none ∧ Tb.mu 87 = none ∧ Tb.mu 88 = none ∧ Tb.mu 89 = none ∧ Tb.mu 90 = none ∧ Tb.mu 91 = none ∧ Tb.mu 92 = none ∧ Tb.mu 93 = none ∧ Tb.mu 94 = none ∧ Tb.mu 95 = none ∧ Tb.mu 96 = none ∧ Tb.mu 97 = none ∧ Tb.mu 98 = none ∧ Tb.mu 99 = none ∧ Tb.mu 100 = none ∧ Tb.mu 101 = none ∧ Tb.mu 102 = some 0 ∧ Tb.mu 103 = some 0 ∧ Tb.mu 104 = none ∧ Tb.mu 105 = none ∧ Tb.mu 106 = none ∧ Tb.mu 107 = none ∧ Tb.mu 108 = none ∧ Tb.mu 109 = none ∧ Tb.mu 110 = none ∧ Tb.mu 111 = none ∧ Tb.mu 112 = none ∧ Tb.mu 113 = none ∧ Tb.mu 114 = none ∧ Tb.mu 115 = none ∧ Tb.mu 116 = none ∧ Tb.mu 117 = none ∧ Tb.mu 118 = none ∧ Tb.mu 119 = none ∧ Tb.mu 120 = none := by
  repeat' (first | refine ⟨rfl, ?_⟩ | rfl)
theorem T_bo : Tb.bo 0 = true ∧ Tb.bo 1 = true ∧ Tb.bo 2 = true ∧ Tb.bo 3 = true ∧ Tb.bo 4 = true ∧ Tb.bo 5 = true ∧ Tb.bo 6 = true ∧ Tb.bo 7 = false ∧ Tb.bo 8 = false ∧ Tb.bo 9 = false ∧ Tb.bo 10 = true ∧ Tb.bo 11 = true ∧ Tb.bo 12 = false ∧ Tb.bo 13 = true ∧ Tb.bo 14 = false ∧ Tb.bo 15 = true ∧ Tb.bo 16 = true ∧ Tb.bo 17 = false ∧ Tb.bo 18 = false ∧ Tb.bo 19 = true ∧ Tb.bo 20 = true ∧ Tb.bo 21 = false ∧ Tb.bo 22 = false ∧ Tb.bo 23 = false ∧ Tb.bo 24 = false ∧ Tb.bo 25 = true ∧ Tb.bo 26 = true ∧ Tb.bo 27 = true ∧ Tb.bo 28 = false ∧ Tb.bo 29 = true ∧ Tb.bo 30 = false ∧ Tb.bo 31 = false ∧ Tb.bo 32 = false ∧ Tb.bo 33 = true ∧ Tb.bo 34 = false ∧ Tb.bo 35 = false ∧ Tb.bo 36 = false ∧ Tb.bo 37 = true ∧ Tb.bo 38 = false ∧ Tb.bo 39 = false ∧ Tb.bo 40 = false ∧ Tb.bo 41 = true ∧ Tb.bo 42 = false ∧ Tb.bo 43 = false ∧ Tb.bo 44 = false ∧ Tb.bo 45 = false ∧ Tb.bo 46 = false ∧ Tb.bo 47 = true ∧ Tb.bo 48 = true ∧ Tb.bo 49 = false ∧ Tb.bo 50 = false ∧ Tb.bo 51 = false ∧ Tb.bo 52 = false ∧ Tb.bo 53 = true ∧ Tb.bo 54 = true ∧ Tb.bo 55 = false ∧ Tb.bo 56 = false ∧ Tb.bo 57 = false ∧ Tb.bo 58 = true ∧ Tb.bo 59 = true ∧ Tb.bo 60 = true ∧ Tb.bo 61 = false ∧ Tb.bo 62 = false ∧ Tb.bo 63 = false ∧ Tb.bo 64 = false ∧ Tb.bo 65 = false ∧ Tb.bo 66 = false ∧ Tb.bo 67 = false ∧ Tb.bo 68 = false ∧ Tb.bo 69 = false ∧ Tb.bo 70 = false ∧ Tb.bo 71 = false ∧ Tb.bo 72 = false ∧ Tb.bo 73 = false ∧ Tb.bo 74 = false ∧ Tb.bo 75 = true ∧ Tb.bo 76 = false ∧ Tb.bo 77 = false ∧ Tb.bo 78 = false ∧ Tb.bo 79 = false ∧ Tb.bo 80 = false ∧ Tb.bo 81 = false ∧ Tb.bo 82 = true ∧ Tb.bo 83 = false ∧ Tb.bo 84 = true ∧ Tb.bo 85 = false ∧ Tb.bo 86 = false ∧ Tb.bo 87 = false ∧ Tb.bo 88 = false ∧ Tb.bo 89 = false ∧ Tb.bo 90 = false ∧ Tb.bo 91 = false ∧ Tb.bo 92 = false ∧ Tb.bo 93 = false ∧ Tb.bo 94 = false ∧ Tb.bo 95 = true ∧ Tb.bo 96 = false ∧ Tb.bo 97 = false ∧ Tb.bo 98 = false ∧ Tb.bo 99 = false ∧ Tb.bo 100 = false ∧ Tb.bo 101 = false ∧ Tb.bo 102 = true ∧ Tb.bo 103 = true ∧ Tb.bo 104 = false ∧ Tb.bo 105 = true ∧ Tb.bo 106 = false ∧ Tb.bo 107 = true ∧ Tb.bo 108 = false ∧ Tb.bo 109 = true ∧ Tb.bo 110 = false ∧ Tb.bo 111 = true ∧ Tb.bo 112 = false ∧ Tb.bo 113 = true ∧ Tb.bo 114 = false ∧ Tb.bo 115 = true ∧ Tb.bo 116 = true ∧ Tb.bo 117 = false ∧ Tb.bo 118 = true ∧ Tb.bo 119 = false ∧ Tb.bo 120 = false := by
  repeat' (first | refine ⟨rfl, ?_⟩ | rfl)
theorem T_js : Tb.js = [] := rfl
attribute [go_sem] T_td T_esz T_mu T_bo T_js
theorem mo : Try.prog.follows .mixedOrders = true := by kernel_rfl
end Go.Proofs.Ytdhgdpcmdmgchaa.Fw
