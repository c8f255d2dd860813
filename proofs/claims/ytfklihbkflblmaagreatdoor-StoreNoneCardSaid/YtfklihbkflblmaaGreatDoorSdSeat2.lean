import Derived.Test.YtfklihbkflblmaaGreatDoorProg
import Derived.KernelRfl
import Derived.Test.YtfklihbkflblmaaGreatDoorSdMemo
set_option linter.all false
open Go Go.Proofs
set_option maxRecDepth 100000
noncomputable section
namespace Sd
def u32s (l : List Int) : List Value := l.map fun n => Value.int .u32 n
def firstL : List Int := [1779033703, 3144134277, 1013904242, 2773480762, 1359893119, 2600822924, 528734635, 1541459225]
def roundsL : List Int := [1116352408,1899447441,3049323471,3921009573,961987163,1508970993,2453635748,2870763221,3624381080,310598401,607225278,1426881987,1925078388,2162078206,2614888103,3248222580,3835390401,4022224774,264347078,604807628,770255983,1249150122,1555081692,1996064986,2554220882,2821834349,2952996808,3210313671,3336571891,3584528711,113926993,338241895,666307205,773529912,1294757372,1396182291,1695183700,1986661051,2177026350,2456956037,2730485921,2820302411,3259730800,3345764771,3516065817,3600352804,4094571909,275423344,430227734,506948616,659060556,883997877,958139571,1322822218,1537002063,1747873779,1955562222,2024104815,2227730452,2361852424,2428436474,2756734187,3204031479,3329325298]
def halvesL : List Int := [0,498536548,997073096,651767980,1994146192,1802195444,1303535960,1342533948,3988292384,4027552580,3604390888,3412177804,2607071920,2262029012,2685067896,3183342108]
def orderL : List Value := [.string "loose".toUTF8, .string "pack".toUTF8, .string "ref".toUTF8]
def mkRo (n : Nat) : Option (T Value) := match n with
  | 0 => some (rowT orderL) | 2 => some (rowT (u32s firstL)) | 3 => some (rowT (u32s roundsL)) | 4 => some (rowT (u32s halvesL)) | _ => none
def mkExt (f : Nat) : Option Ext := match f with | 97 => some .compare | 298 => some .indexByte | 265 => some .noEscape | 99 => some .mapsClone | _ => none
def B : Base := ⟨Tryz.prog, mkRo, mkExt, fun f => Nat.beq f 194⟩
def nameOk (fn : Func) : Bool := fn.body.isNone || !(fn.name == "runtime.NumGoroutine")
theorem names0 : (Tryz.prog.funcs.toList.all nameOk) = true := by kernel_rfl
theorem names1 : NamesOK Tryz.prog := by
  intro f fn hf hb
  have := (List.all_eq_true.1 names0) fn (by have := Array.mem_of_getElem? hf; simpa using this)
  unfold nameOk at this
  cases hbody : fn.body with
  | none => rw [hbody] at hb; cases hb
  | some c => rw [hbody] at this; simpa using this
theorem e97 : Tryz.prog.funcs[97]? = some Tryz.f97 ∧ Tryz.f97.body = none ∧ (Tryz.f97.name == "runtime.NumGoroutine") = false := ⟨by kernel_rfl, by kernel_rfl, by kernel_rfl⟩
theorem e97n : Extern.findNext Tryz.f97 = none := by kernel_rfl
theorem e97f : Extern.find Tryz.f97 = some (implOf .compare) := by kernel_rfl
theorem e298 : Tryz.prog.funcs[298]? = some Tryz.f298 ∧ Tryz.f298.body = none ∧ (Tryz.f298.name == "runtime.NumGoroutine") = false := ⟨by kernel_rfl, by kernel_rfl, by kernel_rfl⟩
theorem e298n : Extern.findNext Tryz.f298 = none := by kernel_rfl
theorem e298f : Extern.find Tryz.f298 = some (implOf .indexByte) := by kernel_rfl
theorem e265 : Tryz.prog.funcs[265]? = some Tryz.f265 ∧ Tryz.f265.body = none ∧ (Tryz.f265.name == "runtime.NumGoroutine") = false := ⟨by kernel_rfl, by kernel_rfl, by kernel_rfl⟩
theorem e265n : Extern.findNext Tryz.f265 = none := by kernel_rfl
theorem e265f : Extern.find Tryz.f265 = some (implOf .noEscape) := by kernel_rfl
theorem e99 : Tryz.prog.funcs[99]? = some Tryz.f99 ∧ Tryz.f99.body = none ∧ (Tryz.f99.name == "runtime.NumGoroutine") = false := ⟨by kernel_rfl, by kernel_rfl, by kernel_rfl⟩
theorem e99n : Extern.findNext Tryz.f99 = none := by kernel_rfl
theorem e99f : Extern.find Tryz.f99 = some (implOf .mapsClone) := by kernel_rfl
theorem extFacts (memo : FuncId → List Value → Option Value) (quiet : FuncId → Bool) (ro : Nat → Option (T Value)) : ExtFacts (Ctx.mk Tryz.prog ro mkExt quiet memo) := by
  intro f x hx
  have hx : mkExt f = some x := hx
  unfold mkExt at hx
  split at hx
  · cases hx; exact ⟨_, e97.1, e97.2.1, e97.2.2, e97n, e97f⟩
  · cases hx; exact ⟨_, e298.1, e298.2.1, e298.2.2, e298n, e298f⟩
  · cases hx; exact ⟨_, e265.1, e265.2.1, e265.2.2, e265n, e265f⟩
  · cases hx; exact ⟨_, e99.1, e99.2.1, e99.2.2, e99n, e99f⟩
  · cases hx
theorem mixed0 : Tryz.prog.follows .mixedOrders = true := by kernel_rfl
theorem baseOK : BaseOK B := ⟨fun tab => extFacts (memoOf tab) _ _, mixed0, names1⟩
def t0 : List MemoE := []
theorem h0 : Facts B t0 := Facts.nil B
/- sediment/disk.isName -/
def a0 : List Value := [.string ⟨#[98, 111, 111, 107]⟩]
def v0 : Value := .bool true
theorem r0 : runsTo B t0 171 a0 v0 = true := by kernel_rfl
def t1 : List MemoE := ⟨171, a0, v0⟩ :: t0
theorem h1 : Facts B t1 := Facts.step baseOK h0 (by kernel_rfl) r0
/- sediment/crc.Seal -/
def a1 : List Value := [.string ⟨#[72, 0]⟩]
def v1 : Value := .string ⟨#[72, 0, 242, 215, 121, 121]⟩
theorem r1 : runsTo B t1 183 a1 v1 = true := by kernel_rfl
def t2 : List MemoE := ⟨183, a1, v1⟩ :: t1
theorem h2 : Facts B t2 := Facts.step baseOK h1 (by kernel_rfl) r1
/- sediment/disk.isName -/
def a2 : List Value := [.string ⟨#[98, 111, 111, 107, 46, 116, 109, 112]⟩]
def v2 : Value := .bool true
theorem r2 : runsTo B t2 171 a2 v2 = true := by kernel_rfl
def t3 : List MemoE := ⟨171, a2, v2⟩ :: t2
theorem h3 : Facts B t3 := Facts.step baseOK h2 (by kernel_rfl) r2
/- sediment/object.Id -/
def a3 : List Value := [.agg #[.int .i64 1, .string ⟨#[97, 98]⟩]]
def v3 : Value := .tuple #[.agg #[.int .u8 37, .int .u8 89, .int .u8 112, .int .u8 78, .int .u8 157, .int .u8 24, .int .u8 30, .int .u8 41, .int .u8 135, .int .u8 218, .int .u8 236, .int .u8 66, .int .u8 99, .int .u8 26, .int .u8 230, .int .u8 225, .int .u8 191, .int .u8 17, .int .u8 132, .int .u8 78, .int .u8 229, .int .u8 68, .int .u8 237, .int .u8 162, .int .u8 39, .int .u8 4, .int .u8 1, .int .u8 21, .int .u8 118, .int .u8 116, .int .u8 222, .int .u8 175], .bool true]
theorem r3 : runsTo B t3 63 a3 v3 = true := by kernel_rfl
def t4 : List MemoE := ⟨63, a3, v3⟩ :: t3
theorem h4 : Facts B t4 := Facts.step baseOK h3 (by kernel_rfl) r3
/- sediment/digest.Hex -/
def a4 : List Value := [.agg #[.int .u8 37, .int .u8 89, .int .u8 112, .int .u8 78, .int .u8 157, .int .u8 24, .int .u8 30, .int .u8 41, .int .u8 135, .int .u8 218, .int .u8 236, .int .u8 66, .int .u8 99, .int .u8 26, .int .u8 230, .int .u8 225, .int .u8 191, .int .u8 17, .int .u8 132, .int .u8 78, .int .u8 229, .int .u8 68, .int .u8 237, .int .u8 162, .int .u8 39, .int .u8 4, .int .u8 1, .int .u8 21, .int .u8 118, .int .u8 116, .int .u8 222, .int .u8 175]]
def v4 : Value := .string ⟨#[50, 53, 53, 57, 55, 48, 52, 101, 57, 100, 49, 56, 49, 101, 50, 57, 56, 55, 100, 97, 101, 99, 52, 50, 54, 51, 49, 97, 101, 54, 101, 49, 98, 102, 49, 49, 56, 52, 52, 101, 101, 53, 52, 52, 101, 100, 97, 50, 50, 55, 48, 52, 48, 49, 49, 53, 55, 54, 55, 52, 100, 101, 97, 102]⟩
theorem r4 : runsTo B t4 66 a4 v4 = true := by kernel_rfl
def t5 : List MemoE := ⟨66, a4, v4⟩ :: t4
theorem h5 : Facts B t5 := Facts.step baseOK h4 (by kernel_rfl) r4
/- sediment/disk.isName -/
def a5 : List Value := [.string ⟨#[50, 53, 53, 57, 55, 48, 52, 101, 57, 100, 49, 56, 49, 101, 50, 57, 56, 55, 100, 97, 101, 99, 52, 50, 54, 51, 49, 97, 101, 54, 101, 49, 98, 102, 49, 49, 56, 52, 52, 101, 101, 53, 52, 52, 101, 100, 97, 50, 50, 55, 48, 52, 48, 49, 49, 53, 55, 54, 55, 52, 100, 101, 97, 102]⟩]
def v5 : Value := .bool true
theorem r5 : runsTo B t5 171 a5 v5 = true := by kernel_rfl
def t6 : List MemoE := ⟨171, a5, v5⟩ :: t5
theorem h6 : Facts B t6 := Facts.step baseOK h5 (by kernel_rfl) r5
/- sediment/crc.Seal -/
def a6 : List Value := [.string ⟨#[83, 76, 79, 49, 98, 2, 97, 98]⟩]
def v6 : Value := .string ⟨#[83, 76, 79, 49, 98, 2, 97, 98, 186, 172, 158, 18]⟩
theorem r6 : runsTo B t6 183 a6 v6 = true := by kernel_rfl
def t7 : List MemoE := ⟨183, a6, v6⟩ :: t6
theorem h7 : Facts B t7 := Facts.step baseOK h6 (by kernel_rfl) r6
/- sediment/loose.Bytes -/
def a7 : List Value := [.agg #[.int .i64 1, .string ⟨#[97, 98]⟩]]
def v7 : Value := .tuple #[.string ⟨#[83, 76, 79, 49, 98, 2, 97, 98, 186, 172, 158, 18]⟩, .int .i64 0]
theorem r7 : runsTo B t7 108 a7 v7 = true := by kernel_rfl
def t8 : List MemoE := ⟨108, a7, v7⟩ :: t7
theorem h8 : Facts B t8 := Facts.step baseOK h7 (by kernel_rfl) r7
/- sediment/disk.isName -/
def a8 : List Value := [.string ⟨#[50, 53, 53, 57, 55, 48, 52, 101, 57, 100, 49, 56, 49, 101, 50, 57, 56, 55, 100, 97, 101, 99, 52, 50, 54, 51, 49, 97, 101, 54, 101, 49, 98, 102, 49, 49, 56, 52, 52, 101, 101, 53, 52, 52, 101, 100, 97, 50, 50, 55, 48, 52, 48, 49, 49, 53, 55, 54, 55, 52, 100, 101, 97, 102, 46, 116, 109, 112]⟩]
def v8 : Value := .bool true
theorem r8 : runsTo B t8 171 a8 v8 = true := by kernel_rfl
def t9 : List MemoE := ⟨171, a8, v8⟩ :: t8
theorem h9 : Facts B t9 := Facts.step baseOK h8 (by kernel_rfl) r8
/- sediment/refs.isName -/
def a9 : List Value := [.string ⟨#[109, 97, 105, 110]⟩]
def v9 : Value := .bool true
theorem r9 : runsTo B t9 119 a9 v9 = true := by kernel_rfl
def t10 : List MemoE := ⟨119, a9, v9⟩ :: t9
theorem h10 : Facts B t10 := Facts.step baseOK h9 (by kernel_rfl) r9
/- sediment/crc.Seal -/
def a10 : List Value := [.string ⟨#[69, 4, 109, 97, 105, 110, 0, 0, 0, 0, 0, 0, 0, 0, 0, 0, 0, 0, 0, 0, 0, 0, 0, 0, 0, 0, 0, 0, 0, 0, 0, 0, 0, 0, 0, 0, 0, 0]⟩]
def v10 : Value := .string ⟨#[69, 4, 109, 97, 105, 110, 0, 0, 0, 0, 0, 0, 0, 0, 0, 0, 0, 0, 0, 0, 0, 0, 0, 0, 0, 0, 0, 0, 0, 0, 0, 0, 0, 0, 0, 0, 0, 0, 87, 147, 26, 189]⟩
theorem r10 : runsTo B t10 183 a10 v10 = true := by kernel_rfl
def t11 : List MemoE := ⟨183, a10, v10⟩ :: t10
theorem h11 : Facts B t11 := Facts.step baseOK h10 (by kernel_rfl) r10
/- sediment/loose.Read -/
def a11 : List Value := [.string ⟨#[50, 53, 53, 57, 55, 48, 52, 101, 57, 100, 49, 56, 49, 101, 50, 57, 56, 55, 100, 97, 101, 99, 52, 50, 54, 51, 49, 97, 101, 54, 101, 49, 98, 102, 49, 49, 56, 52, 52, 101, 101, 53, 52, 52, 101, 100, 97, 50, 50, 55, 48, 52, 48, 49, 49, 53, 55, 54, 55, 52, 100, 101, 97, 102]⟩, .string ⟨#[83, 76, 79, 49, 98, 2, 97, 98, 186, 172, 158, 18]⟩]
def v11 : Value := .tuple #[.agg #[.int .i64 1, .string ⟨#[97, 98]⟩], .bool true]
theorem r11 : runsTo B t11 82 a11 v11 = true := by kernel_rfl
def t12 : List MemoE := ⟨82, a11, v11⟩ :: t11
theorem h12 : Facts B t12 := Facts.step baseOK h11 (by kernel_rfl) r11
/- sediment/crc.Seal -/
def a12 : List Value := [.string ⟨#[69, 4, 109, 97, 105, 110, 37, 89, 112, 78, 157, 24, 30, 41, 135, 218, 236, 66, 99, 26, 230, 225, 191, 17, 132, 78, 229, 68, 237, 162, 39, 4, 1, 21, 118, 116, 222, 175]⟩]
def v12 : Value := .string ⟨#[69, 4, 109, 97, 105, 110, 37, 89, 112, 78, 157, 24, 30, 41, 135, 218, 236, 66, 99, 26, 230, 225, 191, 17, 132, 78, 229, 68, 237, 162, 39, 4, 1, 21, 118, 116, 222, 175, 155, 241, 139, 237]⟩
theorem r12 : runsTo B t12 183 a12 v12 = true := by kernel_rfl
def t13 : List MemoE := ⟨183, a12, v12⟩ :: t12
theorem h13 : Facts B t13 := Facts.step baseOK h12 (by kernel_rfl) r12
end Sd
