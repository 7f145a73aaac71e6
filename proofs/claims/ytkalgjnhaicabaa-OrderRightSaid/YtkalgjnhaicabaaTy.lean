/-
  Facts on the program's types, for our step logic (written by a program of ours). No statement of the program is proved here.
-/
import Derived.Test.YtkalgjnhaicabaaE9
namespace Go.Proofs.Ytkalgjnhaicabaa
open Go.RowKit
theorem follows : Try.prog.follows .mixedOrders = true := by kernel_rfl
theorem sz0 : szIs Try.prog 0 1 := by unfold szIs; kernel_rfl
theorem sz1 : szIs Try.prog 1 1 := by unfold szIs; kernel_rfl
theorem zero1 : (Try.prog.info? 1).map (·.zero) = some (some .nilFunc) := by kernel_rfl
theorem sz2 : szIs Try.prog 2 1 := by unfold szIs; kernel_rfl
theorem zero2 : (Try.prog.info? 2).map (·.zero) = some (some (.int .i64 0)) := by kernel_rfl
theorem sz3 : szIs Try.prog 3 1 := by unfold szIs; kernel_rfl
theorem zero3 : (Try.prog.info? 3).map (·.zero) = some (some (.int .i64 0)) := by kernel_rfl
theorem sz4 : szIs Try.prog 4 1 := by unfold szIs; kernel_rfl
theorem zero4 : (Try.prog.info? 4).map (·.zero) = some (some (.bool false)) := by kernel_rfl
theorem sz5 : szIs Try.prog 5 1 := by unfold szIs; kernel_rfl
theorem zero5 : (Try.prog.info? 5).map (·.zero) = some (some (.int .u8 0)) := by kernel_rfl
theorem sz6 : szIs Try.prog 6 1 := by unfold szIs; kernel_rfl
theorem zero6 : (Try.prog.info? 6).map (·.zero) = some (some (.int .u8 0)) := by kernel_rfl
theorem sz7 : szIs Try.prog 7 4 := by unfold szIs; kernel_rfl
theorem fo7_0 : fieldOff Try.prog 7 0 = some 0 := by kernel_rfl
theorem fo7_1 : fieldOff Try.prog 7 1 = some 1 := by kernel_rfl
theorem fo7_2 : fieldOff Try.prog 7 2 = some 2 := by kernel_rfl
theorem fo7_3 : fieldOff Try.prog 7 3 = some 3 := by kernel_rfl
theorem zero7 : (Try.prog.info? 7).map (·.zero) = some (some (.agg #[(.int .i64 0), (.int .i64 0), (.bool false), (.int .u8 0)])) := by kernel_rfl
theorem sz8 : szIs Try.prog 8 4 := by unfold szIs; kernel_rfl
theorem bi8 : BuiltIs Try.prog 8 [(.int .i64 0), (.int .i64 0), (.bool false), (.int .u8 0)] (placeL [(0, 1), (1, 1), (2, 1), (3, 1)]) := .struct (z := (.agg #[(.int .i64 0), (.int .i64 0), (.bool false), (.int .u8 0)])) (by kernel_rfl) rfl (by kernel_rfl)
theorem fo8_0 : fieldOff Try.prog 8 0 = some 0 := by kernel_rfl
theorem fo8_1 : fieldOff Try.prog 8 1 = some 1 := by kernel_rfl
theorem fo8_2 : fieldOff Try.prog 8 2 = some 2 := by kernel_rfl
theorem fo8_3 : fieldOff Try.prog 8 3 = some 3 := by kernel_rfl
theorem zero8 : (Try.prog.info? 8).map (·.zero) = some (some (.agg #[(.int .i64 0), (.int .i64 0), (.bool false), (.int .u8 0)])) := by kernel_rfl
theorem sz9 : szIs Try.prog 9 1 := by unfold szIs; kernel_rfl
theorem zero9 : (Try.prog.info? 9).map (·.zero) = some (some (.string ⟨#[]⟩)) := by kernel_rfl
theorem sz10 : szIs Try.prog 10 1 := by unfold szIs; kernel_rfl
theorem zero10 : (Try.prog.info? 10).map (·.zero) = some (some (.string ⟨#[]⟩)) := by kernel_rfl
theorem sz11 : szIs Try.prog 11 1 := by unfold szIs; kernel_rfl
theorem zero11 : (Try.prog.info? 11).map (·.zero) = some (some (.string ⟨#[]⟩)) := by kernel_rfl
theorem sz12 : szIs Try.prog 12 1 := by unfold szIs; kernel_rfl
theorem zero12 : (Try.prog.info? 12).map (·.zero) = some (some (.int .u64 0)) := by kernel_rfl
theorem sz13 : szIs Try.prog 13 2 := by unfold szIs; kernel_rfl
theorem fo13_0 : fieldOff Try.prog 13 0 = some 0 := by kernel_rfl
theorem fo13_1 : fieldOff Try.prog 13 1 = some 1 := by kernel_rfl
theorem zero13 : (Try.prog.info? 13).map (·.zero) = some (some (.agg #[(.string ⟨#[]⟩), (.int .u64 0)])) := by kernel_rfl
theorem sz14 : szIs Try.prog 14 2 := by unfold szIs; kernel_rfl
theorem bi14 : BuiltIs Try.prog 14 [(.str ⟨#[]⟩), (.int .u64 0)] (placeL [(0, 1), (1, 1)]) := .struct (z := (.agg #[(.string ⟨#[]⟩), (.int .u64 0)])) (by kernel_rfl) rfl (by kernel_rfl)
theorem fo14_0 : fieldOff Try.prog 14 0 = some 0 := by kernel_rfl
theorem fo14_1 : fieldOff Try.prog 14 1 = some 1 := by kernel_rfl
theorem zero14 : (Try.prog.info? 14).map (·.zero) = some (some (.agg #[(.string ⟨#[]⟩), (.int .u64 0)])) := by kernel_rfl
theorem sz15 : szIs Try.prog 15 1 := by unfold szIs; kernel_rfl
theorem zero15 : (Try.prog.info? 15).map (·.zero) = some (some (.pointer none)) := by kernel_rfl
theorem sz16 : szIs Try.prog 16 1 := by unfold szIs; kernel_rfl
theorem zero16 : (Try.prog.info? 16).map (·.zero) = some (some (.pointer none)) := by kernel_rfl
theorem sz17 : szIs Try.prog 17 1 := by unfold szIs; kernel_rfl
theorem zero17 : (Try.prog.info? 17).map (·.zero) = some (some (.pointer none)) := by kernel_rfl
theorem sz18 : szIs Try.prog 18 1 := by unfold szIs; kernel_rfl
theorem fo18_0 : fieldOff Try.prog 18 0 = some 0 := by kernel_rfl
theorem zero18 : (Try.prog.info? 18).map (·.zero) = some (some (.agg #[(.pointer none)])) := by kernel_rfl
theorem sz19 : szIs Try.prog 19 1 := by unfold szIs; kernel_rfl
theorem bi19 : BuiltIs Try.prog 19 [.nilptr] (placeL [(0, 1)]) := .struct (z := (.agg #[(.pointer none)])) (by kernel_rfl) rfl (by kernel_rfl)
theorem fo19_0 : fieldOff Try.prog 19 0 = some 0 := by kernel_rfl
theorem zero19 : (Try.prog.info? 19).map (·.zero) = some (some (.agg #[(.pointer none)])) := by kernel_rfl
theorem sz20 : szIs Try.prog 20 1 := by unfold szIs; kernel_rfl
theorem zero20 : (Try.prog.info? 20).map (·.zero) = some (some .nilIface) := by kernel_rfl
theorem sz21 : szIs Try.prog 21 1 := by unfold szIs; kernel_rfl
theorem zero21 : (Try.prog.info? 21).map (·.zero) = some (some (.int .i32 0)) := by kernel_rfl
theorem sz22 : szIs Try.prog 22 1 := by unfold szIs; kernel_rfl
theorem el22 : ElemIs Try.prog 22 3 (.int .i64 0) 1 8 := ⟨by kernel_rfl, by kernel_rfl, rfl, by decide, by decide⟩
theorem zero22 : (Try.prog.info? 22).map (·.zero) = some (some (.slice none 0 0)) := by kernel_rfl
theorem sz23 : szIs Try.prog 23 1 := by unfold szIs; kernel_rfl
theorem zero23 : (Try.prog.info? 23).map (·.zero) = some (some .nilFunc) := by kernel_rfl
theorem sz24 : szIs Try.prog 24 1 := by unfold szIs; kernel_rfl
theorem zero24 : (Try.prog.info? 24).map (·.zero) = some (some (.pointer none)) := by kernel_rfl
theorem sz25 : szIs Try.prog 25 1 := by unfold szIs; kernel_rfl
theorem zero25 : (Try.prog.info? 25).map (·.zero) = some (some .nilFunc) := by kernel_rfl
theorem sz26 : szIs Try.prog 26 1 := by unfold szIs; kernel_rfl
theorem el26 : ElemIs Try.prog 26 61 (.agg #[(.string ⟨#[]⟩), (.int .i64 0)]) 2 24 := ⟨by kernel_rfl, by kernel_rfl, rfl, by decide, by decide⟩
theorem zero26 : (Try.prog.info? 26).map (·.zero) = some (some (.slice none 0 0)) := by kernel_rfl
theorem sz27 : szIs Try.prog 27 1 := by unfold szIs; kernel_rfl
theorem el27 : ElemIs Try.prog 27 40 (.agg #[(.string ⟨#[]⟩), (.slice none 0 0)]) 2 40 := ⟨by kernel_rfl, by kernel_rfl, rfl, by decide, by decide⟩
theorem zero27 : (Try.prog.info? 27).map (·.zero) = some (some (.slice none 0 0)) := by kernel_rfl
theorem sz28 : szIs Try.prog 28 1 := by unfold szIs; kernel_rfl
theorem el28 : ElemIs Try.prog 28 63 (.agg #[(.int .i64 0), (.int .i64 0), (.int .i64 0)]) 3 24 := ⟨by kernel_rfl, by kernel_rfl, rfl, by decide, by decide⟩
theorem zero28 : (Try.prog.info? 28).map (·.zero) = some (some (.slice none 0 0)) := by kernel_rfl
theorem sz29 : szIs Try.prog 29 4 := by unfold szIs; kernel_rfl
theorem fo29_0 : fieldOff Try.prog 29 0 = some 0 := by kernel_rfl
theorem fo29_1 : fieldOff Try.prog 29 1 = some 1 := by kernel_rfl
theorem fo29_2 : fieldOff Try.prog 29 2 = some 2 := by kernel_rfl
theorem fo29_3 : fieldOff Try.prog 29 3 = some 3 := by kernel_rfl
theorem zero29 : (Try.prog.info? 29).map (·.zero) = some (some (.agg #[(.slice none 0 0), (.slice none 0 0), (.slice none 0 0), (.int .i64 0)])) := by kernel_rfl
theorem sz30 : szIs Try.prog 30 4 := by unfold szIs; kernel_rfl
theorem bi30 : BuiltIs Try.prog 30 [(.sl (some true) 0 []), (.sl (some true) 0 []), (.sl (some true) 0 []), (.int .i64 0)] (placeL [(0, 1), (1, 1), (2, 1), (3, 1)]) := .struct (z := (.agg #[(.slice none 0 0), (.slice none 0 0), (.slice none 0 0), (.int .i64 0)])) (by kernel_rfl) rfl (by kernel_rfl)
theorem fo30_0 : fieldOff Try.prog 30 0 = some 0 := by kernel_rfl
theorem fo30_1 : fieldOff Try.prog 30 1 = some 1 := by kernel_rfl
theorem fo30_2 : fieldOff Try.prog 30 2 = some 2 := by kernel_rfl
theorem fo30_3 : fieldOff Try.prog 30 3 = some 3 := by kernel_rfl
theorem zero30 : (Try.prog.info? 30).map (·.zero) = some (some (.agg #[(.slice none 0 0), (.slice none 0 0), (.slice none 0 0), (.int .i64 0)])) := by kernel_rfl
theorem sz31 : szIs Try.prog 31 1 := by unfold szIs; kernel_rfl
theorem zero31 : (Try.prog.info? 31).map (·.zero) = some (some .nilFunc) := by kernel_rfl
theorem sz32 : szIs Try.prog 32 1 := by unfold szIs; kernel_rfl
theorem fo32_0 : fieldOff Try.prog 32 0 = some 0 := by kernel_rfl
theorem zero32 : (Try.prog.info? 32).map (·.zero) = some (some (.agg #[(.slice none 0 0)])) := by kernel_rfl
theorem sz33 : szIs Try.prog 33 1 := by unfold szIs; kernel_rfl
theorem bi33 : BuiltIs Try.prog 33 [(.sl (some true) 0 [])] (placeL [(0, 1)]) := .struct (z := (.agg #[(.slice none 0 0)])) (by kernel_rfl) rfl (by kernel_rfl)
theorem fo33_0 : fieldOff Try.prog 33 0 = some 0 := by kernel_rfl
theorem zero33 : (Try.prog.info? 33).map (·.zero) = some (some (.agg #[(.slice none 0 0)])) := by kernel_rfl
theorem sz34 : szIs Try.prog 34 1 := by unfold szIs; kernel_rfl
theorem zero34 : (Try.prog.info? 34).map (·.zero) = some (some (.int .i64 0)) := by kernel_rfl
theorem sz35 : szIs Try.prog 35 1 := by unfold szIs; kernel_rfl
theorem sz36 : szIs Try.prog 36 1 := by unfold szIs; kernel_rfl
theorem zero36 : (Try.prog.info? 36).map (·.zero) = some (some .nilFunc) := by kernel_rfl
theorem sz37 : szIs Try.prog 37 1 := by unfold szIs; kernel_rfl
theorem zero37 : (Try.prog.info? 37).map (·.zero) = some (some .nilFunc) := by kernel_rfl
theorem sz38 : szIs Try.prog 38 1 := by unfold szIs; kernel_rfl
theorem zero38 : (Try.prog.info? 38).map (·.zero) = some (some .nilFunc) := by kernel_rfl
theorem sz39 : szIs Try.prog 39 2 := by unfold szIs; kernel_rfl
theorem fo39_0 : fieldOff Try.prog 39 0 = some 0 := by kernel_rfl
theorem fo39_1 : fieldOff Try.prog 39 1 = some 1 := by kernel_rfl
theorem zero39 : (Try.prog.info? 39).map (·.zero) = some (some (.agg #[(.string ⟨#[]⟩), (.slice none 0 0)])) := by kernel_rfl
theorem sz40 : szIs Try.prog 40 2 := by unfold szIs; kernel_rfl
theorem bi40 : BuiltIs Try.prog 40 [(.str ⟨#[]⟩), (.sl (some true) 0 [])] (placeL [(0, 1), (1, 1)]) := .struct (z := (.agg #[(.string ⟨#[]⟩), (.slice none 0 0)])) (by kernel_rfl) rfl (by kernel_rfl)
theorem fo40_0 : fieldOff Try.prog 40 0 = some 0 := by kernel_rfl
theorem fo40_1 : fieldOff Try.prog 40 1 = some 1 := by kernel_rfl
theorem zero40 : (Try.prog.info? 40).map (·.zero) = some (some (.agg #[(.string ⟨#[]⟩), (.slice none 0 0)])) := by kernel_rfl
theorem sz41 : szIs Try.prog 41 1 := by unfold szIs; kernel_rfl
theorem zero41 : (Try.prog.info? 41).map (·.zero) = some (some .nilFunc) := by kernel_rfl
theorem sz42 : szIs Try.prog 42 1 := by unfold szIs; kernel_rfl
theorem zero42 : (Try.prog.info? 42).map (·.zero) = some (some .nilFunc) := by kernel_rfl
theorem sz43 : szIs Try.prog 43 1 := by unfold szIs; kernel_rfl
theorem zero43 : (Try.prog.info? 43).map (·.zero) = some (some .nilFunc) := by kernel_rfl
theorem sz44 : szIs Try.prog 44 1 := by unfold szIs; kernel_rfl
theorem zero44 : (Try.prog.info? 44).map (·.zero) = some (some .nilFunc) := by kernel_rfl
theorem sz45 : szIs Try.prog 45 1 := by unfold szIs; kernel_rfl
theorem zero45 : (Try.prog.info? 45).map (·.zero) = some (some .nilFunc) := by kernel_rfl
theorem sz46 : szIs Try.prog 46 1 := by unfold szIs; kernel_rfl
theorem zero46 : (Try.prog.info? 46).map (·.zero) = some (some .nilFunc) := by kernel_rfl
theorem sz47 : szIs Try.prog 47 2 := by unfold szIs; kernel_rfl
theorem bi47 : BuiltIs Try.prog 47 [(.sl (some true) 0 []), (.sl (some true) 0 [])] (fun i => some (i * 1, 1)) := .array (z := (.agg #[(.slice none 0 0), (.slice none 0 0)])) (k := 2) (e := 33) (s := 1) (by kernel_rfl) (by kernel_rfl) rfl (by unfold szIs; kernel_rfl)
theorem zero47 : (Try.prog.info? 47).map (·.zero) = some (some (.agg #[(.slice none 0 0), (.slice none 0 0)])) := by kernel_rfl
theorem sz48 : szIs Try.prog 48 1 := by unfold szIs; kernel_rfl
theorem sz49 : szIs Try.prog 49 1 := by unfold szIs; kernel_rfl
theorem zero49 : (Try.prog.info? 49).map (·.zero) = some (some .nilFunc) := by kernel_rfl
theorem sz50 : szIs Try.prog 50 1 := by unfold szIs; kernel_rfl
theorem sz51 : szIs Try.prog 51 1 := by unfold szIs; kernel_rfl
theorem zero51 : (Try.prog.info? 51).map (·.zero) = some (some .nilFunc) := by kernel_rfl
theorem sz52 : szIs Try.prog 52 1 := by unfold szIs; kernel_rfl
theorem zero52 : (Try.prog.info? 52).map (·.zero) = some (some .nilFunc) := by kernel_rfl
theorem sz53 : szIs Try.prog 53 1 := by unfold szIs; kernel_rfl
theorem zero53 : (Try.prog.info? 53).map (·.zero) = some (some .nilFunc) := by kernel_rfl
theorem sz54 : szIs Try.prog 54 2 := by unfold szIs; kernel_rfl
theorem fo54_0 : fieldOff Try.prog 54 0 = some 0 := by kernel_rfl
theorem fo54_1 : fieldOff Try.prog 54 1 = some 1 := by kernel_rfl
theorem zero54 : (Try.prog.info? 54).map (·.zero) = some (some (.agg #[(.slice none 0 0), (.int .i64 0)])) := by kernel_rfl
theorem sz55 : szIs Try.prog 55 2 := by unfold szIs; kernel_rfl
theorem bi55 : BuiltIs Try.prog 55 [(.sl (some true) 0 []), (.int .i64 0)] (placeL [(0, 1), (1, 1)]) := .struct (z := (.agg #[(.slice none 0 0), (.int .i64 0)])) (by kernel_rfl) rfl (by kernel_rfl)
theorem fo55_0 : fieldOff Try.prog 55 0 = some 0 := by kernel_rfl
theorem fo55_1 : fieldOff Try.prog 55 1 = some 1 := by kernel_rfl
theorem zero55 : (Try.prog.info? 55).map (·.zero) = some (some (.agg #[(.slice none 0 0), (.int .i64 0)])) := by kernel_rfl
theorem sz56 : szIs Try.prog 56 1 := by unfold szIs; kernel_rfl
theorem zero56 : (Try.prog.info? 56).map (·.zero) = some (some .nilFunc) := by kernel_rfl
theorem sz57 : szIs Try.prog 57 1 := by unfold szIs; kernel_rfl
theorem zero57 : (Try.prog.info? 57).map (·.zero) = some (some .nilFunc) := by kernel_rfl
theorem sz58 : szIs Try.prog 58 1 := by unfold szIs; kernel_rfl
theorem zero58 : (Try.prog.info? 58).map (·.zero) = some (some .nilFunc) := by kernel_rfl
theorem sz59 : szIs Try.prog 59 1 := by unfold szIs; kernel_rfl
theorem zero59 : (Try.prog.info? 59).map (·.zero) = some (some .nilFunc) := by kernel_rfl
theorem sz60 : szIs Try.prog 60 2 := by unfold szIs; kernel_rfl
theorem fo60_0 : fieldOff Try.prog 60 0 = some 0 := by kernel_rfl
theorem fo60_1 : fieldOff Try.prog 60 1 = some 1 := by kernel_rfl
theorem zero60 : (Try.prog.info? 60).map (·.zero) = some (some (.agg #[(.string ⟨#[]⟩), (.int .i64 0)])) := by kernel_rfl
theorem sz61 : szIs Try.prog 61 2 := by unfold szIs; kernel_rfl
theorem bi61 : BuiltIs Try.prog 61 [(.str ⟨#[]⟩), (.int .i64 0)] (placeL [(0, 1), (1, 1)]) := .struct (z := (.agg #[(.string ⟨#[]⟩), (.int .i64 0)])) (by kernel_rfl) rfl (by kernel_rfl)
theorem fo61_0 : fieldOff Try.prog 61 0 = some 0 := by kernel_rfl
theorem fo61_1 : fieldOff Try.prog 61 1 = some 1 := by kernel_rfl
theorem zero61 : (Try.prog.info? 61).map (·.zero) = some (some (.agg #[(.string ⟨#[]⟩), (.int .i64 0)])) := by kernel_rfl
theorem sz62 : szIs Try.prog 62 3 := by unfold szIs; kernel_rfl
theorem fo62_0 : fieldOff Try.prog 62 0 = some 0 := by kernel_rfl
theorem fo62_1 : fieldOff Try.prog 62 1 = some 1 := by kernel_rfl
theorem fo62_2 : fieldOff Try.prog 62 2 = some 2 := by kernel_rfl
theorem zero62 : (Try.prog.info? 62).map (·.zero) = some (some (.agg #[(.int .i64 0), (.int .i64 0), (.int .i64 0)])) := by kernel_rfl
theorem sz63 : szIs Try.prog 63 3 := by unfold szIs; kernel_rfl
theorem bi63 : BuiltIs Try.prog 63 [(.int .i64 0), (.int .i64 0), (.int .i64 0)] (placeL [(0, 1), (1, 1), (2, 1)]) := .struct (z := (.agg #[(.int .i64 0), (.int .i64 0), (.int .i64 0)])) (by kernel_rfl) rfl (by kernel_rfl)
theorem fo63_0 : fieldOff Try.prog 63 0 = some 0 := by kernel_rfl
theorem fo63_1 : fieldOff Try.prog 63 1 = some 1 := by kernel_rfl
theorem fo63_2 : fieldOff Try.prog 63 2 = some 2 := by kernel_rfl
theorem zero63 : (Try.prog.info? 63).map (·.zero) = some (some (.agg #[(.int .i64 0), (.int .i64 0), (.int .i64 0)])) := by kernel_rfl
theorem sz64 : szIs Try.prog 64 1 := by unfold szIs; kernel_rfl
theorem zero64 : (Try.prog.info? 64).map (·.zero) = some (some .nilFunc) := by kernel_rfl
theorem sz65 : szIs Try.prog 65 1 := by unfold szIs; kernel_rfl
theorem zero65 : (Try.prog.info? 65).map (·.zero) = some (some .nilFunc) := by kernel_rfl
theorem sz66 : szIs Try.prog 66 1 := by unfold szIs; kernel_rfl
theorem sz67 : szIs Try.prog 67 1 := by unfold szIs; kernel_rfl
theorem zero67 : (Try.prog.info? 67).map (·.zero) = some (some .nilFunc) := by kernel_rfl
theorem sz68 : szIs Try.prog 68 1 := by unfold szIs; kernel_rfl
theorem zero68 : (Try.prog.info? 68).map (·.zero) = some (some .nilFunc) := by kernel_rfl
theorem sz69 : szIs Try.prog 69 1 := by unfold szIs; kernel_rfl
theorem zero69 : (Try.prog.info? 69).map (·.zero) = some (some .nilFunc) := by kernel_rfl
theorem sz70 : szIs Try.prog 70 1 := by unfold szIs; kernel_rfl
theorem zero70 : (Try.prog.info? 70).map (·.zero) = some (some .nilFunc) := by kernel_rfl
theorem sz71 : szIs Try.prog 71 1 := by unfold szIs; kernel_rfl
theorem zero71 : (Try.prog.info? 71).map (·.zero) = some (some .nilFunc) := by kernel_rfl
theorem sz72 : szIs Try.prog 72 1 := by unfold szIs; kernel_rfl
theorem zero72 : (Try.prog.info? 72).map (·.zero) = some (some .nilFunc) := by kernel_rfl
theorem sz73 : szIs Try.prog 73 1 := by unfold szIs; kernel_rfl
theorem zero73 : (Try.prog.info? 73).map (·.zero) = some (some .nilFunc) := by kernel_rfl
theorem sz74 : szIs Try.prog 74 1 := by unfold szIs; kernel_rfl
theorem zero74 : (Try.prog.info? 74).map (·.zero) = some (some .nilFunc) := by kernel_rfl
theorem sz75 : szIs Try.prog 75 1 := by unfold szIs; kernel_rfl
theorem zero75 : (Try.prog.info? 75).map (·.zero) = some (some .nilFunc) := by kernel_rfl
theorem sz76 : szIs Try.prog 76 1 := by unfold szIs; kernel_rfl
theorem el76 : ElemIs Try.prog 76 5 (.int .u8 0) 1 1 := ⟨by kernel_rfl, by kernel_rfl, rfl, by decide, by decide⟩
theorem zero76 : (Try.prog.info? 76).map (·.zero) = some (some (.slice none 0 0)) := by kernel_rfl
theorem sz77 : szIs Try.prog 77 1 := by unfold szIs; kernel_rfl
theorem el77 : ElemIs Try.prog 77 64 .nilFunc 1 8 := ⟨by kernel_rfl, by kernel_rfl, rfl, by decide, by decide⟩
theorem zero77 : (Try.prog.info? 77).map (·.zero) = some (some (.slice none 0 0)) := by kernel_rfl
theorem sz78 : szIs Try.prog 78 1 := by unfold szIs; kernel_rfl
theorem zero78 : (Try.prog.info? 78).map (·.zero) = some (some .nilFunc) := by kernel_rfl
theorem sz79 : szIs Try.prog 79 1 := by unfold szIs; kernel_rfl
theorem el79 : ElemIs Try.prog 79 84 (.int .u64 0) 1 8 := ⟨by kernel_rfl, by kernel_rfl, rfl, by decide, by decide⟩
theorem zero79 : (Try.prog.info? 79).map (·.zero) = some (some (.slice none 0 0)) := by kernel_rfl
theorem sz80 : szIs Try.prog 80 1 := by unfold szIs; kernel_rfl
theorem el80 : ElemIs Try.prog 80 84 (.int .u64 0) 1 8 := ⟨by kernel_rfl, by kernel_rfl, rfl, by decide, by decide⟩
theorem zero80 : (Try.prog.info? 80).map (·.zero) = some (some (.slice none 0 0)) := by kernel_rfl
theorem sz81 : szIs Try.prog 81 1 := by unfold szIs; kernel_rfl
theorem zero81 : (Try.prog.info? 81).map (·.zero) = some (some .nilFunc) := by kernel_rfl
theorem sz82 : szIs Try.prog 82 1 := by unfold szIs; kernel_rfl
theorem zero82 : (Try.prog.info? 82).map (·.zero) = some (some .nilFunc) := by kernel_rfl
theorem sz83 : szIs Try.prog 83 1 := by unfold szIs; kernel_rfl
theorem zero83 : (Try.prog.info? 83).map (·.zero) = some (some (.int .u64 0)) := by kernel_rfl
theorem sz84 : szIs Try.prog 84 1 := by unfold szIs; kernel_rfl
theorem zero84 : (Try.prog.info? 84).map (·.zero) = some (some (.int .u64 0)) := by kernel_rfl
theorem sz85 : szIs Try.prog 85 1 := by unfold szIs; kernel_rfl
theorem zero85 : (Try.prog.info? 85).map (·.zero) = some (some .nilFunc) := by kernel_rfl
theorem sz86 : szIs Try.prog 86 1 := by unfold szIs; kernel_rfl
theorem zero86 : (Try.prog.info? 86).map (·.zero) = some (some .nilFunc) := by kernel_rfl
theorem sz87 : szIs Try.prog 87 1 := by unfold szIs; kernel_rfl
theorem zero87 : (Try.prog.info? 87).map (·.zero) = some (some .nilFunc) := by kernel_rfl
theorem sz88 : szIs Try.prog 88 1 := by unfold szIs; kernel_rfl
theorem zero88 : (Try.prog.info? 88).map (·.zero) = some (some .nilFunc) := by kernel_rfl
theorem sz89 : szIs Try.prog 89 1 := by unfold szIs; kernel_rfl
theorem zero89 : (Try.prog.info? 89).map (·.zero) = some (some .nilFunc) := by kernel_rfl
theorem sz90 : szIs Try.prog 90 1 := by unfold szIs; kernel_rfl
theorem zero90 : (Try.prog.info? 90).map (·.zero) = some (some .nilFunc) := by kernel_rfl
theorem sz91 : szIs Try.prog 91 1 := by unfold szIs; kernel_rfl
theorem zero91 : (Try.prog.info? 91).map (·.zero) = some (some .nilFunc) := by kernel_rfl
theorem sz92 : szIs Try.prog 92 1 := by unfold szIs; kernel_rfl
theorem zero92 : (Try.prog.info? 92).map (·.zero) = some (some .nilFunc) := by kernel_rfl
theorem sz93 : szIs Try.prog 93 1 := by unfold szIs; kernel_rfl
theorem zero93 : (Try.prog.info? 93).map (·.zero) = some (some (.map none)) := by kernel_rfl
theorem sz94 : szIs Try.prog 94 2 := by unfold szIs; kernel_rfl
theorem fo94_0 : fieldOff Try.prog 94 0 = some 0 := by kernel_rfl
theorem fo94_1 : fieldOff Try.prog 94 1 = some 1 := by kernel_rfl
theorem zero94 : (Try.prog.info? 94).map (·.zero) = some (some (.agg #[(.slice none 0 0), (.map none)])) := by kernel_rfl
theorem sz95 : szIs Try.prog 95 2 := by unfold szIs; kernel_rfl
theorem bi95 : BuiltIs Try.prog 95 [(.sl (some true) 0 []), .nilmap] (placeL [(0, 1), (1, 1)]) := .struct (z := (.agg #[(.slice none 0 0), (.map none)])) (by kernel_rfl) rfl (by kernel_rfl)
theorem fo95_0 : fieldOff Try.prog 95 0 = some 0 := by kernel_rfl
theorem fo95_1 : fieldOff Try.prog 95 1 = some 1 := by kernel_rfl
theorem zero95 : (Try.prog.info? 95).map (·.zero) = some (some (.agg #[(.slice none 0 0), (.map none)])) := by kernel_rfl
theorem sz96 : szIs Try.prog 96 1 := by unfold szIs; kernel_rfl
theorem zero96 : (Try.prog.info? 96).map (·.zero) = some (some .nilFunc) := by kernel_rfl
theorem sz97 : szIs Try.prog 97 1 := by unfold szIs; kernel_rfl
theorem zero97 : (Try.prog.info? 97).map (·.zero) = some (some .nilFunc) := by kernel_rfl
theorem sz98 : szIs Try.prog 98 1 := by unfold szIs; kernel_rfl
theorem el98 : ElemIs Try.prog 98 9 (.string ⟨#[]⟩) 1 16 := ⟨by kernel_rfl, by kernel_rfl, rfl, by decide, by decide⟩
theorem zero98 : (Try.prog.info? 98).map (·.zero) = some (some (.slice none 0 0)) := by kernel_rfl
theorem sz99 : szIs Try.prog 99 1 := by unfold szIs; kernel_rfl
theorem zero99 : (Try.prog.info? 99).map (·.zero) = some (some .nilFunc) := by kernel_rfl
theorem sz100 : szIs Try.prog 100 1 := by unfold szIs; kernel_rfl
theorem el100 : ElemIs Try.prog 100 4 (.bool false) 1 1 := ⟨by kernel_rfl, by kernel_rfl, rfl, by decide, by decide⟩
theorem zero100 : (Try.prog.info? 100).map (·.zero) = some (some (.slice none 0 0)) := by kernel_rfl
theorem sz101 : szIs Try.prog 101 1 := by unfold szIs; kernel_rfl
theorem zero101 : (Try.prog.info? 101).map (·.zero) = some (some .nilFunc) := by kernel_rfl
theorem sz102 : szIs Try.prog 102 1 := by unfold szIs; kernel_rfl
theorem zero102 : (Try.prog.info? 102).map (·.zero) = some (some .nilFunc) := by kernel_rfl
theorem sz103 : szIs Try.prog 103 1 := by unfold szIs; kernel_rfl
theorem zero103 : (Try.prog.info? 103).map (·.zero) = some (some .nilFunc) := by kernel_rfl
theorem sz104 : szIs Try.prog 104 1 := by unfold szIs; kernel_rfl
theorem zero104 : (Try.prog.info? 104).map (·.zero) = some (some .nilFunc) := by kernel_rfl
theorem sz105 : szIs Try.prog 105 1 := by unfold szIs; kernel_rfl
theorem zero105 : (Try.prog.info? 105).map (·.zero) = some (some .nilFunc) := by kernel_rfl
theorem sz106 : szIs Try.prog 106 1 := by unfold szIs; kernel_rfl
theorem zero106 : (Try.prog.info? 106).map (·.zero) = some (some .nilFunc) := by kernel_rfl
theorem sz107 : szIs Try.prog 107 1 := by unfold szIs; kernel_rfl
theorem zero107 : (Try.prog.info? 107).map (·.zero) = some (some .nilFunc) := by kernel_rfl
theorem sz108 : szIs Try.prog 108 1 := by unfold szIs; kernel_rfl
theorem zero108 : (Try.prog.info? 108).map (·.zero) = some (some .nilFunc) := by kernel_rfl
theorem sz109 : szIs Try.prog 109 1 := by unfold szIs; kernel_rfl
theorem zero109 : (Try.prog.info? 109).map (·.zero) = some (some .nilFunc) := by kernel_rfl
theorem sz110 : szIs Try.prog 110 1 := by unfold szIs; kernel_rfl
theorem zero110 : (Try.prog.info? 110).map (·.zero) = some (some .nilFunc) := by kernel_rfl
theorem sz111 : szIs Try.prog 111 1 := by unfold szIs; kernel_rfl
theorem zero111 : (Try.prog.info? 111).map (·.zero) = some (some .nilFunc) := by kernel_rfl
theorem sz112 : szIs Try.prog 112 1 := by unfold szIs; kernel_rfl
theorem zero112 : (Try.prog.info? 112).map (·.zero) = some (some .nilFunc) := by kernel_rfl
theorem sz113 : szIs Try.prog 113 1 := by unfold szIs; kernel_rfl
theorem zero113 : (Try.prog.info? 113).map (·.zero) = some (some .nilFunc) := by kernel_rfl
theorem sz114 : szIs Try.prog 114 1 := by unfold szIs; kernel_rfl
theorem zero114 : (Try.prog.info? 114).map (·.zero) = some (some (.int .i64 0)) := by kernel_rfl
theorem sz115 : szIs Try.prog 115 1 := by unfold szIs; kernel_rfl
theorem sz116 : szIs Try.prog 116 1 := by unfold szIs; kernel_rfl
theorem zero116 : (Try.prog.info? 116).map (·.zero) = some (some .nilFunc) := by kernel_rfl
theorem sz117 : szIs Try.prog 117 1 := by unfold szIs; kernel_rfl
theorem zero117 : (Try.prog.info? 117).map (·.zero) = some (some .nilFunc) := by kernel_rfl
theorem sz118 : szIs Try.prog 118 1 := by unfold szIs; kernel_rfl
theorem zero118 : (Try.prog.info? 118).map (·.zero) = some (some .nilFunc) := by kernel_rfl
theorem sz119 : szIs Try.prog 119 1 := by unfold szIs; kernel_rfl
theorem zero119 : (Try.prog.info? 119).map (·.zero) = some (some .nilFunc) := by kernel_rfl
theorem sz120 : szIs Try.prog 120 1 := by unfold szIs; kernel_rfl
theorem sz121 : szIs Try.prog 121 1 := by unfold szIs; kernel_rfl
theorem zero121 : (Try.prog.info? 121).map (·.zero) = some (some .nilFunc) := by kernel_rfl
theorem sz122 : szIs Try.prog 122 1 := by unfold szIs; kernel_rfl
theorem zero122 : (Try.prog.info? 122).map (·.zero) = some (some .nilFunc) := by kernel_rfl
theorem sz123 : szIs Try.prog 123 1 := by unfold szIs; kernel_rfl
theorem zero123 : (Try.prog.info? 123).map (·.zero) = some (some (.int .u32 0)) := by kernel_rfl
theorem sz124 : szIs Try.prog 124 1 := by unfold szIs; kernel_rfl
theorem zero124 : (Try.prog.info? 124).map (·.zero) = some (some .nilFunc) := by kernel_rfl
theorem sz125 : szIs Try.prog 125 1 := by unfold szIs; kernel_rfl
theorem zero125 : (Try.prog.info? 125).map (·.zero) = some (some (.int .u64 0)) := by kernel_rfl
theorem sz126 : szIs Try.prog 126 1 := by unfold szIs; kernel_rfl
theorem zero126 : (Try.prog.info? 126).map (·.zero) = some (some .nilFunc) := by kernel_rfl
theorem sz127 : szIs Try.prog 127 1 := by unfold szIs; kernel_rfl
theorem zero127 : (Try.prog.info? 127).map (·.zero) = some (some (.int .u64 0)) := by kernel_rfl
theorem sz128 : szIs Try.prog 128 1 := by unfold szIs; kernel_rfl
theorem zero128 : (Try.prog.info? 128).map (·.zero) = some (some .nilFunc) := by kernel_rfl
theorem sz129 : szIs Try.prog 129 1 := by unfold szIs; kernel_rfl
theorem zero129 : (Try.prog.info? 129).map (·.zero) = some (some .nilFunc) := by kernel_rfl
theorem sz130 : szIs Try.prog 130 1 := by unfold szIs; kernel_rfl
theorem zero130 : (Try.prog.info? 130).map (·.zero) = some (some .nilFunc) := by kernel_rfl
theorem sz131 : szIs Try.prog 131 1 := by unfold szIs; kernel_rfl
theorem zero131 : (Try.prog.info? 131).map (·.zero) = some (some (.pointer none)) := by kernel_rfl
theorem sz132 : szIs Try.prog 132 1 := by unfold szIs; kernel_rfl
theorem zero132 : (Try.prog.info? 132).map (·.zero) = some (some .nilFunc) := by kernel_rfl
theorem sz133 : szIs Try.prog 133 1 := by unfold szIs; kernel_rfl
theorem zero133 : (Try.prog.info? 133).map (·.zero) = some (some .nilFunc) := by kernel_rfl
theorem sz134 : szIs Try.prog 134 1 := by unfold szIs; kernel_rfl
theorem zero134 : (Try.prog.info? 134).map (·.zero) = some (some (.pointer none)) := by kernel_rfl
theorem sz135 : szIs Try.prog 135 1 := by unfold szIs; kernel_rfl
theorem sz136 : szIs Try.prog 136 1 := by unfold szIs; kernel_rfl
theorem zero136 : (Try.prog.info? 136).map (·.zero) = some (some .nilFunc) := by kernel_rfl
theorem sz137 : szIs Try.prog 137 1 := by unfold szIs; kernel_rfl
theorem zero137 : (Try.prog.info? 137).map (·.zero) = some (some .nilFunc) := by kernel_rfl
theorem sz138 : szIs Try.prog 138 4 := by unfold szIs; kernel_rfl
theorem fo138_0 : fieldOff Try.prog 138 0 = some 0 := by kernel_rfl
theorem fo138_1 : fieldOff Try.prog 138 1 = some 1 := by kernel_rfl
theorem fo138_2 : fieldOff Try.prog 138 2 = some 2 := by kernel_rfl
theorem fo138_3 : fieldOff Try.prog 138 3 = some 3 := by kernel_rfl
theorem zero138 : (Try.prog.info? 138).map (·.zero) = some (some (.agg #[(.pointer none), (.pointer none), (.pointer none), (.string ⟨#[]⟩)])) := by kernel_rfl
theorem sz139 : szIs Try.prog 139 4 := by unfold szIs; kernel_rfl
theorem bi139 : BuiltIs Try.prog 139 [.nilptr, .nilptr, .nilptr, (.str ⟨#[]⟩)] (placeL [(0, 1), (1, 1), (2, 1), (3, 1)]) := .struct (z := (.agg #[(.pointer none), (.pointer none), (.pointer none), (.string ⟨#[]⟩)])) (by kernel_rfl) rfl (by kernel_rfl)
theorem fo139_0 : fieldOff Try.prog 139 0 = some 0 := by kernel_rfl
theorem fo139_1 : fieldOff Try.prog 139 1 = some 1 := by kernel_rfl
theorem fo139_2 : fieldOff Try.prog 139 2 = some 2 := by kernel_rfl
theorem fo139_3 : fieldOff Try.prog 139 3 = some 3 := by kernel_rfl
theorem zero139 : (Try.prog.info? 139).map (·.zero) = some (some (.agg #[(.pointer none), (.pointer none), (.pointer none), (.string ⟨#[]⟩)])) := by kernel_rfl
theorem sz140 : szIs Try.prog 140 0 := by unfold szIs; kernel_rfl
theorem bi140 : BuiltIs Try.prog 140 [] (fun i => some (i * 1, 1)) := .array (z := (.agg #[])) (k := 0) (e := 16) (s := 1) (by kernel_rfl) (by kernel_rfl) rfl (by unfold szIs; kernel_rfl)
theorem zero140 : (Try.prog.info? 140).map (·.zero) = some (some (.agg #[])) := by kernel_rfl
theorem sz141 : szIs Try.prog 141 0 := by unfold szIs; kernel_rfl
theorem zero141 : (Try.prog.info? 141).map (·.zero) = some (some (.agg #[])) := by kernel_rfl
theorem sz142 : szIs Try.prog 142 0 := by unfold szIs; kernel_rfl
theorem bi142 : BuiltIs Try.prog 142 [] (placeL [(0, 0)]) := .struct (z := (.agg #[])) (by kernel_rfl) rfl (by kernel_rfl)
theorem zero142 : (Try.prog.info? 142).map (·.zero) = some (some (.agg #[])) := by kernel_rfl
theorem sz143 : szIs Try.prog 143 1 := by unfold szIs; kernel_rfl
theorem zero143 : (Try.prog.info? 143).map (·.zero) = some (some (.int .u8 0)) := by kernel_rfl
theorem sz144 : szIs Try.prog 144 1 := by unfold szIs; kernel_rfl
theorem zero144 : (Try.prog.info? 144).map (·.zero) = some (some (.int .u8 0)) := by kernel_rfl
theorem sz145 : szIs Try.prog 145 1 := by unfold szIs; kernel_rfl
theorem zero145 : (Try.prog.info? 145).map (·.zero) = some (some .nilFunc) := by kernel_rfl
theorem sz146 : szIs Try.prog 146 1 := by unfold szIs; kernel_rfl
theorem zero146 : (Try.prog.info? 146).map (·.zero) = some (some (.pointer none)) := by kernel_rfl
theorem sz147 : szIs Try.prog 147 1 := by unfold szIs; kernel_rfl
theorem zero147 : (Try.prog.info? 147).map (·.zero) = some (some (.int .i32 0)) := by kernel_rfl
theorem sz148 : szIs Try.prog 148 1 := by unfold szIs; kernel_rfl
theorem zero148 : (Try.prog.info? 148).map (·.zero) = some (some (.int .i32 0)) := by kernel_rfl
theorem sz149 : szIs Try.prog 149 11 := by unfold szIs; kernel_rfl
theorem fo149_0 : fieldOff Try.prog 149 0 = some 0 := by kernel_rfl
theorem fo149_1 : fieldOff Try.prog 149 1 = some 1 := by kernel_rfl
theorem fo149_2 : fieldOff Try.prog 149 2 = some 2 := by kernel_rfl
theorem fo149_3 : fieldOff Try.prog 149 3 = some 3 := by kernel_rfl
theorem fo149_4 : fieldOff Try.prog 149 4 = some 4 := by kernel_rfl
theorem fo149_5 : fieldOff Try.prog 149 5 = some 5 := by kernel_rfl
theorem fo149_6 : fieldOff Try.prog 149 6 = some 6 := by kernel_rfl
theorem fo149_7 : fieldOff Try.prog 149 7 = some 7 := by kernel_rfl
theorem fo149_8 : fieldOff Try.prog 149 8 = some 8 := by kernel_rfl
theorem fo149_9 : fieldOff Try.prog 149 9 = some 9 := by kernel_rfl
theorem fo149_10 : fieldOff Try.prog 149 10 = some 10 := by kernel_rfl
theorem zero149 : (Try.prog.info? 149).map (·.zero) = some (some (.agg #[(.int .u64 0), (.int .u64 0), (.int .u32 0), (.int .u8 0), (.int .u8 0), (.int .u8 0), (.int .u8 0), .nilFunc, (.pointer none), (.int .i32 0), (.int .i32 0)])) := by kernel_rfl
theorem sz150 : szIs Try.prog 150 11 := by unfold szIs; kernel_rfl
theorem bi150 : BuiltIs Try.prog 150 [(.int .u64 0), (.int .u64 0), (.int .u32 0), (.int .u8 0), (.int .u8 0), (.int .u8 0), (.int .u8 0), .nilfn, .nilptr, (.int .i32 0), (.int .i32 0)] (placeL [(0, 1), (1, 1), (2, 1), (3, 1), (4, 1), (5, 1), (6, 1), (7, 1), (8, 1), (9, 1), (10, 1)]) := .struct (z := (.agg #[(.int .u64 0), (.int .u64 0), (.int .u32 0), (.int .u8 0), (.int .u8 0), (.int .u8 0), (.int .u8 0), .nilFunc, (.pointer none), (.int .i32 0), (.int .i32 0)])) (by kernel_rfl) rfl (by kernel_rfl)
theorem fo150_0 : fieldOff Try.prog 150 0 = some 0 := by kernel_rfl
theorem fo150_1 : fieldOff Try.prog 150 1 = some 1 := by kernel_rfl
theorem fo150_2 : fieldOff Try.prog 150 2 = some 2 := by kernel_rfl
theorem fo150_3 : fieldOff Try.prog 150 3 = some 3 := by kernel_rfl
theorem fo150_4 : fieldOff Try.prog 150 4 = some 4 := by kernel_rfl
theorem fo150_5 : fieldOff Try.prog 150 5 = some 5 := by kernel_rfl
theorem fo150_6 : fieldOff Try.prog 150 6 = some 6 := by kernel_rfl
theorem fo150_7 : fieldOff Try.prog 150 7 = some 7 := by kernel_rfl
theorem fo150_8 : fieldOff Try.prog 150 8 = some 8 := by kernel_rfl
theorem fo150_9 : fieldOff Try.prog 150 9 = some 9 := by kernel_rfl
theorem fo150_10 : fieldOff Try.prog 150 10 = some 10 := by kernel_rfl
theorem zero150 : (Try.prog.info? 150).map (·.zero) = some (some (.agg #[(.int .u64 0), (.int .u64 0), (.int .u32 0), (.int .u8 0), (.int .u8 0), (.int .u8 0), (.int .u8 0), .nilFunc, (.pointer none), (.int .i32 0), (.int .i32 0)])) := by kernel_rfl
theorem sz151 : szIs Try.prog 151 1 := by unfold szIs; kernel_rfl
theorem zero151 : (Try.prog.info? 151).map (·.zero) = some (some (.pointer none)) := by kernel_rfl
end Go.Proofs.Ytkalgjnhaicabaa
