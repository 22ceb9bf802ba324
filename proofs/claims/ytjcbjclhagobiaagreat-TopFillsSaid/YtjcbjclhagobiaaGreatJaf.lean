/- Texts joined by a program of ours: Kt Ma Ca Cb Cc Cd. -/
import Derived.Test.YtjcbjclhagobiaaGreatJab
import Derived.Test.YtjcbjclhagobiaaGreatJac
import Derived.Test.YtjcbjclhagobiaaGreatJad
import Derived.Test.YtjcbjclhagobiaaGreatRows
set_option linter.all false
section
namespace Go.KL
open Go Go.Proofs.Tryz
set_option maxRecDepth 100000
instance:TyU prog 3 (.int .i64):=⟨by kernel_rfl⟩
instance:TyN prog 3 false 1 [.int .i64 0]:=.of (by kernel_rfl) (by kernel_rfl)
instance:TyB prog 3 8:=.of (by kernel_rfl)
instance:TyU prog 4 .bool:=⟨by kernel_rfl⟩
instance:TyN prog 4 false 1 [.bool false]:=.of (by kernel_rfl) (by kernel_rfl)
instance:TyB prog 4 1:=.of (by kernel_rfl)
instance:TyU prog 5 (.int .u8):=⟨by kernel_rfl⟩
instance:TyN prog 5 false 1 [.int .u8 0]:=.of (by kernel_rfl) (by kernel_rfl)
instance:TyB prog 5 1:=.of (by kernel_rfl)
instance:TyU prog 9 .string:=⟨by kernel_rfl⟩
instance:TyU prog 22 (.slice 5):=⟨by kernel_rfl⟩
instance:TyN prog 22 false 1 [.slice none 0 0]:=.of (by kernel_rfl) (by kernel_rfl)
instance:TyU prog 24 (.slice 48):=⟨by kernel_rfl⟩
instance:TyN prog 24 false 1 [.slice none 0 0]:=.of (by kernel_rfl) (by kernel_rfl)
instance:TyN prog 26 true 7 [.int .i64 0,.int .i64 0,.int .i64 0,.int .i64 0,.int .i64 0,.int .i64 0,.slice none 0 0]:=.of (by kernel_rfl) (by kernel_rfl)
instance:TyF prog 26 0 0 3:=.of (by kernel_rfl)
instance:TyF prog 26 1 1 3:=.of (by kernel_rfl)
instance:TyF prog 26 2 2 3:=.of (by kernel_rfl)
instance:TyF prog 26 3 3 3:=.of (by kernel_rfl)
instance:TyF prog 26 4 4 3:=.of (by kernel_rfl)
instance:TyF prog 26 5 5 3:=.of (by kernel_rfl)
instance:TyF prog 26 6 6 24:=.of (by kernel_rfl)
instance:TyP prog 26 [(0,1),(1,1),(2,1),(3,1),(4,1),(5,1),(6,1)]:=.of (by kernel_rfl)
instance:TyU prog 27 (.slice 77):=⟨by kernel_rfl⟩
instance:TyN prog 27 false 1 [.slice none 0 0]:=.of (by kernel_rfl) (by kernel_rfl)
instance:TyU prog 30 (.slice 69):=⟨by kernel_rfl⟩
instance:TyN prog 32 true 7 [.int .i64 0,.int .i64 0,.int .i64 0,.int .i64 0,.int .i64 0,.int .i64 0,.slice none 0 0]:=.of (by kernel_rfl) (by kernel_rfl)
instance:TyF prog 32 0 0 3:=.of (by kernel_rfl)
instance:TyF prog 32 1 1 3:=.of (by kernel_rfl)
instance:TyF prog 32 2 2 3:=.of (by kernel_rfl)
instance:TyF prog 32 3 3 3:=.of (by kernel_rfl)
instance:TyF prog 32 4 4 3:=.of (by kernel_rfl)
instance:TyF prog 32 5 5 3:=.of (by kernel_rfl)
instance:TyF prog 32 6 6 24:=.of (by kernel_rfl)
instance:TyU prog 33 (.slice 63):=⟨by kernel_rfl⟩
instance:TyU prog 36 (.slice 218):=⟨by kernel_rfl⟩
instance:TyN prog 36 false 1 [.slice none 0 0]:=.of (by kernel_rfl) (by kernel_rfl)
instance:TyN prog 38 true 2 [.slice none 0 0,.int .i64 0]:=.of (by kernel_rfl) (by kernel_rfl)
instance:TyF prog 38 0 0 36:=.of (by kernel_rfl)
instance:TyF prog 38 1 1 3:=.of (by kernel_rfl)
instance:TyP prog 38 [(0,1),(1,1)]:=.of (by kernel_rfl)
instance:TyN prog 40 true 4 [.slice none 0 0,.int .i64 0,.int .i64 0,.int .i64 0]:=.of (by kernel_rfl) (by kernel_rfl)
instance:TyF prog 40 0 0 38:=.of (by kernel_rfl)
instance:TyF prog 40 1 2 3:=.of (by kernel_rfl)
instance:TyF prog 40 2 3 3:=.of (by kernel_rfl)
instance:TyP prog 40 [(0,2),(2,1),(3,1)]:=.of (by kernel_rfl)
instance:TyN prog 45 false 1 [.int .i64 0]:=.of (by kernel_rfl) (by kernel_rfl)
instance:TyU prog 48 (.int .u64):=⟨by kernel_rfl⟩
instance:TyN prog 48 false 1 [.int .u64 0]:=.of (by kernel_rfl) (by kernel_rfl)
instance:TyB prog 48 8:=.of (by kernel_rfl)
instance:TyN prog 50 true 3 [.int .u64 0,.int .u64 0,.bool false]:=.of (by kernel_rfl) (by kernel_rfl)
instance:TyF prog 50 0 0 48:=.of (by kernel_rfl)
instance:TyF prog 50 1 1 48:=.of (by kernel_rfl)
instance:TyF prog 50 2 2 4:=.of (by kernel_rfl)
instance:TyP prog 50 [(0,1),(1,1),(2,1)]:=.of (by kernel_rfl)
instance:TyN prog 52 true 4 [.int .u64 0,.int .u64 0,.bool false,.int .i64 0]:=.of (by kernel_rfl) (by kernel_rfl)
instance:TyB prog 52 32:=.of (by kernel_rfl)
instance:TyF prog 52 0 0 50:=.of (by kernel_rfl)
instance:TyF prog 52 1 3 3:=.of (by kernel_rfl)
instance:TyP prog 52 [(0,3),(3,1)]:=.of (by kernel_rfl)
instance:TyN prog 54 true 5 [.int .u64 0,.int .u64 0,.bool false,.int .i64 0,.int .i64 0]:=.of (by kernel_rfl) (by kernel_rfl)
instance:TyB prog 54 40:=.of (by kernel_rfl)
instance:TyF prog 54 0 0 52:=.of (by kernel_rfl)
instance:TyF prog 54 1 4 3:=.of (by kernel_rfl)
instance:TyP prog 54 [(0,4),(4,1)]:=.of (by kernel_rfl)
instance:TyU prog 55 (.slice 54):=⟨by kernel_rfl⟩
instance:TyN prog 55 false 1 [.slice none 0 0]:=.of (by kernel_rfl) (by kernel_rfl)
instance:TyN prog 63 true 8 [.int .i64 0,.int .u64 0,.int .u64 0,.bool false,.int .i64 0,.int .i64 0,.int .i64 0,.slice none 0 0]:=.of (by kernel_rfl) (by kernel_rfl)
instance:TyF prog 63 0 0 3:=.of (by kernel_rfl)
instance:TyF prog 63 1 1 52:=.of (by kernel_rfl)
instance:TyF prog 63 2 5 3:=.of (by kernel_rfl)
instance:TyF prog 63 3 6 3:=.of (by kernel_rfl)
instance:TyF prog 63 4 7 22:=.of (by kernel_rfl)
instance:TyN prog 65 true 5 [.int .i64 0,.int .i64 0,.int .i64 0,.int .i64 0,.slice none 0 0]:=.of (by kernel_rfl) (by kernel_rfl)
instance:TyF prog 65 0 0 3:=.of (by kernel_rfl)
instance:TyF prog 65 1 1 3:=.of (by kernel_rfl)
instance:TyF prog 65 2 2 3:=.of (by kernel_rfl)
instance:TyF prog 65 3 3 3:=.of (by kernel_rfl)
instance:TyF prog 65 4 4 22:=.of (by kernel_rfl)
instance:TyP prog 65 [(0,1),(1,1),(2,1),(3,1),(4,1)]:=.of (by kernel_rfl)
instance:TyN prog 66 true 8 [.bool false,.int .u64 0,.int .u64 0,.bool false,.int .i64 0,.int .i64 0,.slice none 0 0,.slice none 0 0]:=.of (by kernel_rfl) (by kernel_rfl)
instance:TyF prog 66 0 0 4:=.of (by kernel_rfl)
instance:TyF prog 66 1 1 54:=.of (by kernel_rfl)
instance:TyP prog 66 [(0,1),(1,5),(6,1),(7,1)]:=.of (by kernel_rfl)
instance:TyU prog 67 (.slice 203):=⟨by kernel_rfl⟩
instance:TyN prog 67 false 1 [.slice none 0 0]:=.of (by kernel_rfl) (by kernel_rfl)
instance:TyN prog 69 true 19 [.int .i64 0,.int .i64 0,.int .i64 0,.int .i64 0,.int .i64 0,.int .i64 0,.slice none 0 0,.bool false,.int .u64 0,.int .u64 0,.bool false,.int .i64 0,.int .i64 0,.slice none 0 0,.slice none 0 0,.slice none 0 0,.slice none 0 0,.slice none 0 0,.bool false]:=.of (by kernel_rfl) (by kernel_rfl)
instance:TyB prog 69 248:=.of (by kernel_rfl)
instance:TyF prog 69 1 1 45:=.of (by kernel_rfl)
instance:TyF prog 69 2 2 65:=.of (by kernel_rfl)
instance:TyF prog 69 3 7 66:=.of (by kernel_rfl)
instance:TyF prog 69 4 15 55:=.of (by kernel_rfl)
instance:TyF prog 69 5 16 24:=.of (by kernel_rfl)
instance:TyF prog 69 6 17 67:=.of (by kernel_rfl)
instance:TyF prog 69 7 18 4:=.of (by kernel_rfl)
instance:TyP prog 69 [(0,1),(1,1),(2,5),(7,8),(15,1),(16,1),(17,1),(18,1)]:=.of (by kernel_rfl)
instance:TyU prog 74 (.pointer 184):=⟨by kernel_rfl⟩
instance:TyN prog 77 true 8 [.int .i64 0,.int .u64 0,.int .u64 0,.bool false,.int .i64 0,.int .i64 0,.int .i64 0,.slice none 0 0]:=.of (by kernel_rfl) (by kernel_rfl)
instance:TyB prog 77 80:=.of (by kernel_rfl)
instance:TyF prog 77 0 0 3:=.of (by kernel_rfl)
instance:TyF prog 77 1 1 52:=.of (by kernel_rfl)
instance:TyF prog 77 2 5 3:=.of (by kernel_rfl)
instance:TyF prog 77 3 6 3:=.of (by kernel_rfl)
instance:TyF prog 77 4 7 22:=.of (by kernel_rfl)
instance:TyP prog 77 [(0,1),(1,4),(5,1),(6,1),(7,1)]:=.of (by kernel_rfl)
instance:TyN prog 81 true 10 [.int .i64 0,.int .i64 0,.int .i64 0,.int .i64 0,.int .u64 0,.int .u64 0,.bool false,.int .u64 0,.int .u64 0,.bool false]:=.of (by kernel_rfl) (by kernel_rfl)
instance:TyF prog 81 0 0 3:=.of (by kernel_rfl)
instance:TyF prog 81 1 1 3:=.of (by kernel_rfl)
instance:TyF prog 81 2 2 3:=.of (by kernel_rfl)
instance:TyF prog 81 3 3 3:=.of (by kernel_rfl)
instance:TyF prog 81 4 4 50:=.of (by kernel_rfl)
instance:TyF prog 81 5 7 50:=.of (by kernel_rfl)
instance:TyP prog 81 [(0,1),(1,1),(2,1),(3,1),(4,3),(7,3)]:=.of (by kernel_rfl)
instance:TyU prog 88 (.slice 52):=⟨by kernel_rfl⟩
instance:TyU prog 90 (.pointer 191):=⟨by kernel_rfl⟩
instance:TyN prog 90 false 1 [.pointer none]:=.of (by kernel_rfl) (by kernel_rfl)
instance:TyU prog 93 (.slice 189):=⟨by kernel_rfl⟩
instance:TyN prog 93 false 1 [.slice none 0 0]:=.of (by kernel_rfl) (by kernel_rfl)
instance:TyN prog 95 true 2 [.slice none 0 0,.int .i64 0]:=.of (by kernel_rfl) (by kernel_rfl)
instance:TyF prog 95 0 0 93:=.of (by kernel_rfl)
instance:TyF prog 95 1 1 3:=.of (by kernel_rfl)
instance:TyP prog 95 [(0,1),(1,1)]:=.of (by kernel_rfl)
instance:TyU prog 97 (.slice 114):=⟨by kernel_rfl⟩
instance:TyN prog 97 false 1 [.slice none 0 0]:=.of (by kernel_rfl) (by kernel_rfl)
instance:TyN prog 99 true 2 [.slice none 0 0,.int .i64 0]:=.of (by kernel_rfl) (by kernel_rfl)
instance:TyF prog 99 0 0 97:=.of (by kernel_rfl)
instance:TyF prog 99 1 1 3:=.of (by kernel_rfl)
instance:TyP prog 99 [(0,1),(1,1)]:=.of (by kernel_rfl)
instance:TyU prog 106 (.pointer 244):=⟨by kernel_rfl⟩
instance:TyN prog 106 false 1 [.pointer none]:=.of (by kernel_rfl) (by kernel_rfl)
instance:TyN prog 114 true 9 [.int .u64 0,.int .u64 0,.bool false,.int .u64 0,.int .u64 0,.bool false,.int .i64 0,.int .i64 0,.bool false]:=.of (by kernel_rfl) (by kernel_rfl)
instance:TyB prog 114 72:=.of (by kernel_rfl)
instance:TyF prog 114 0 0 50:=.of (by kernel_rfl)
instance:TyF prog 114 1 3 54:=.of (by kernel_rfl)
instance:TyF prog 114 2 8 4:=.of (by kernel_rfl)
instance:TyP prog 114 [(0,3),(3,5),(8,1)]:=.of (by kernel_rfl)
instance:TyU prog 124 (.array 17 48):=⟨by kernel_rfl⟩
instance:TyN prog 136 true 17 [.int .u64 0,.int .u64 0,.int .u64 0,.int .u64 0,.int .u64 0,.int .u64 0,.int .u64 0,.int .u64 0,.int .u64 0,.int .u64 0,.int .u64 0,.int .u64 0,.int .u64 0,.int .u64 0,.int .u64 0,.int .u64 0,.int .u64 0]:=.of (by kernel_rfl) (by kernel_rfl)
instance:TyF prog 136 0 0 124:=.of (by kernel_rfl)
instance:TyU prog 142 (.slice 3):=⟨by kernel_rfl⟩
instance:TyN prog 142 false 1 [.slice none 0 0]:=.of (by kernel_rfl) (by kernel_rfl)
instance:TyN prog 150 true 1 [.slice none 0 0]:=.of (by kernel_rfl) (by kernel_rfl)
instance:TyF prog 150 0 0 22:=.of (by kernel_rfl)
instance:TyP prog 150 [(0,1)]:=.of (by kernel_rfl)
instance:TyN prog 153 false 1 [.nilFunc]:=.of (by kernel_rfl) (by kernel_rfl)
instance:TyU prog 154 (.array 10 153):=⟨by kernel_rfl⟩
instance:TyN prog 154 true 10 [.nilFunc,.nilFunc,.nilFunc,.nilFunc,.nilFunc,.nilFunc,.nilFunc,.nilFunc,.nilFunc,.nilFunc]:=.of (by kernel_rfl) (by kernel_rfl)
instance:TyN prog 166 false 1 [.nilFunc]:=.of (by kernel_rfl) (by kernel_rfl)
instance:TyN prog 167 false 1 [.nilFunc]:=.of (by kernel_rfl) (by kernel_rfl)
instance:TyN prog 169 true 2 [.nilFunc,.nilFunc]:=.of (by kernel_rfl) (by kernel_rfl)
instance:TyF prog 169 0 0 166:=.of (by kernel_rfl)
instance:TyF prog 169 1 1 167:=.of (by kernel_rfl)
instance:TyP prog 169 [(0,1),(1,1)]:=.of (by kernel_rfl)
instance:TyN prog 171 true 5 [.int .u64 0,.int .u64 0,.bool false,.int .i64 0,.int .i64 0]:=.of (by kernel_rfl) (by kernel_rfl)
instance:TyF prog 171 0 0 50:=.of (by kernel_rfl)
instance:TyF prog 171 1 3 3:=.of (by kernel_rfl)
instance:TyF prog 171 2 4 3:=.of (by kernel_rfl)
instance:TyP prog 171 [(0,3),(3,1),(4,1)]:=.of (by kernel_rfl)
instance:TyU prog 175 (.int .u64):=⟨by kernel_rfl⟩
instance:TyU prog 178 (.int .u16):=⟨by kernel_rfl⟩
instance:TyN prog 182 true 6 [.int .i64 0,.int .i64 0,.int .i64 0,.int .i64 0,.int .i64 0,.slice none 0 0]:=.of (by kernel_rfl) (by kernel_rfl)
instance:TyF prog 182 0 0 3:=.of (by kernel_rfl)
instance:TyF prog 182 1 1 3:=.of (by kernel_rfl)
instance:TyF prog 182 2 2 3:=.of (by kernel_rfl)
instance:TyF prog 182 3 3 3:=.of (by kernel_rfl)
instance:TyF prog 182 4 4 3:=.of (by kernel_rfl)
instance:TyF prog 182 5 5 24:=.of (by kernel_rfl)
instance:TyP prog 182 [(0,1),(1,1),(2,1),(3,1),(4,1),(5,1)]:=.of (by kernel_rfl)
instance:TyN prog 184 true 3 [.pointer none,.slice none 0 0,.int .i64 0]:=.of (by kernel_rfl) (by kernel_rfl)
instance:TyF prog 184 0 0 90:=.of (by kernel_rfl)
instance:TyF prog 184 1 1 67:=.of (by kernel_rfl)
instance:TyF prog 184 2 2 3:=.of (by kernel_rfl)
instance:TyP prog 184 [(0,1),(1,1),(2,1)]:=.of (by kernel_rfl)
instance:TyU prog 186 (.pointer 283):=⟨by kernel_rfl⟩
instance:TyN prog 186 false 1 [.pointer none]:=.of (by kernel_rfl) (by kernel_rfl)
instance:TyN prog 189 true 9 [.int .u64 0,.int .u64 0,.bool false,.int .u64 0,.int .u64 0,.bool false,.int .i64 0,.int .i64 0,.bool false]:=.of (by kernel_rfl) (by kernel_rfl)
instance:TyB prog 189 72:=.of (by kernel_rfl)
instance:TyP prog 189 [(0,3),(3,5),(8,1)]:=.of (by kernel_rfl)
instance:TyN prog 191 true 21 [.pointer none,.pointer none,.slice none 0 0,.int .i64 0,.int .u64 0,.int .u64 0,.int .u64 0,.int .u64 0,.int .u64 0,.int .u64 0,.int .u64 0,.int .u64 0,.int .u64 0,.int .u64 0,.int .u64 0,.int .u64 0,.int .u64 0,.int .u64 0,.int .u64 0,.int .u64 0,.int .u64 0]:=.of (by kernel_rfl) (by kernel_rfl)
instance:TyF prog 191 0 0 106:=.of (by kernel_rfl)
instance:TyF prog 191 1 1 186:=.of (by kernel_rfl)
instance:TyF prog 191 2 2 99:=.of (by kernel_rfl)
instance:TyF prog 191 3 4 136:=.of (by kernel_rfl)
instance:TyP prog 191 [(0,1),(1,1),(2,2),(4,17)]:=.of (by kernel_rfl)
instance:TyN prog 203 true 3 [.int .i64 0,.int .u64 0,.int .u64 0]:=.of (by kernel_rfl) (by kernel_rfl)
instance:TyB prog 203 24:=.of (by kernel_rfl)
instance:TyF prog 203 0 0 3:=.of (by kernel_rfl)
instance:TyF prog 203 1 1 48:=.of (by kernel_rfl)
instance:TyF prog 203 2 2 48:=.of (by kernel_rfl)
instance:TyP prog 203 [(0,1),(1,1),(2,1)]:=.of (by kernel_rfl)
instance:TyU prog 208 (.slice 4):=⟨by kernel_rfl⟩
instance:TyN prog 208 false 1 [.slice none 0 0]:=.of (by kernel_rfl) (by kernel_rfl)
instance:TyU prog 209 (.slice 214):=⟨by kernel_rfl⟩
instance:TyN prog 209 false 1 [.slice none 0 0]:=.of (by kernel_rfl) (by kernel_rfl)
instance:TyU prog 210 (.pointer 308):=⟨by kernel_rfl⟩
instance:TyN prog 210 false 1 [.pointer none]:=.of (by kernel_rfl) (by kernel_rfl)
instance:TyN prog 214 true 5 [.int .u64 0,.int .u64 0,.bool false,.int .i64 0,.int .i64 0]:=.of (by kernel_rfl) (by kernel_rfl)
instance:TyB prog 214 40:=.of (by kernel_rfl)
instance:TyF prog 214 0 0 52:=.of (by kernel_rfl)
instance:TyF prog 214 1 4 3:=.of (by kernel_rfl)
instance:TyP prog 214 [(0,4),(4,1)]:=.of (by kernel_rfl)
instance:TyN prog 218 true 5 [.int .u64 0,.int .u64 0,.bool false,.int .i64 0,.int .i64 0]:=.of (by kernel_rfl) (by kernel_rfl)
instance:TyB prog 218 40:=.of (by kernel_rfl)
instance:TyF prog 218 0 0 52:=.of (by kernel_rfl)
instance:TyF prog 218 1 4 3:=.of (by kernel_rfl)
instance:TyP prog 218 [(0,4),(4,1)]:=.of (by kernel_rfl)
instance:TyU prog 242 (.map 3 3):=⟨by kernel_rfl⟩
instance:TyN prog 242 false 1 [.map none]:=.of (by kernel_rfl) (by kernel_rfl)
instance:TyN prog 244 true 4 [.pointer none,.map none,.int .i64 0,.int .i64 0]:=.of (by kernel_rfl) (by kernel_rfl)
instance:TyF prog 244 0 0 210:=.of (by kernel_rfl)
instance:TyF prog 244 1 1 242:=.of (by kernel_rfl)
instance:TyF prog 244 2 2 3:=.of (by kernel_rfl)
instance:TyF prog 244 3 3 3:=.of (by kernel_rfl)
instance:TyP prog 244 [(0,1),(1,1),(2,1),(3,1)]:=.of (by kernel_rfl)
instance:TyU prog 246 (.array 2 48):=⟨by kernel_rfl⟩
instance:TyN prog 246 true 2 [.int .u64 0,.int .u64 0]:=.of (by kernel_rfl) (by kernel_rfl)
instance:TyU prog 249 (.slice 50):=⟨by kernel_rfl⟩
instance:TyN prog 253 true 1 [.slice none 0 0]:=.of (by kernel_rfl) (by kernel_rfl)
instance:TyF prog 253 0 0 22:=.of (by kernel_rfl)
instance:TyP prog 253 [(0,1)]:=.of (by kernel_rfl)
instance:TyN prog 264 false 1 [.chan none]:=.of (by kernel_rfl) (by kernel_rfl)
instance:TyN prog 265 false 1 [.chan none]:=.of (by kernel_rfl) (by kernel_rfl)
instance:TyU prog 277 (.pointer 356):=⟨by kernel_rfl⟩
instance:TyN prog 277 false 1 [.pointer none]:=.of (by kernel_rfl) (by kernel_rfl)
instance:TyN prog 279 true 1 [.pointer none]:=.of (by kernel_rfl) (by kernel_rfl)
instance:TyF prog 279 0 0 277:=.of (by kernel_rfl)
instance:TyP prog 279 [(0,1)]:=.of (by kernel_rfl)
instance:TyU prog 280 (.pointer 412):=⟨by kernel_rfl⟩
instance:TyN prog 280 false 1 [.pointer none]:=.of (by kernel_rfl) (by kernel_rfl)
instance:TyU prog 281 (.pointer 414):=⟨by kernel_rfl⟩
instance:TyN prog 281 false 1 [.pointer none]:=.of (by kernel_rfl) (by kernel_rfl)
instance:TyN prog 283 true 5 [.pointer none,.int .i64 0,.pointer none,.pointer none,.pointer none]:=.of (by kernel_rfl) (by kernel_rfl)
instance:TyF prog 283 0 0 279:=.of (by kernel_rfl)
instance:TyF prog 283 1 1 3:=.of (by kernel_rfl)
instance:TyF prog 283 2 2 280:=.of (by kernel_rfl)
instance:TyF prog 283 3 3 210:=.of (by kernel_rfl)
instance:TyF prog 283 4 4 281:=.of (by kernel_rfl)
instance:TyP prog 283 [(0,1),(1,1),(2,1),(3,1),(4,1)]:=.of (by kernel_rfl)
instance:TyN prog 287 false 1 [.nilFunc]:=.of (by kernel_rfl) (by kernel_rfl)
instance:TyN prog 290 false 1 [.nilFunc]:=.of (by kernel_rfl) (by kernel_rfl)
instance:TyN prog 301 true 5 [.int .i64 0,.int .u64 0,.int .u64 0,.bool false,.int .i64 0]:=.of (by kernel_rfl) (by kernel_rfl)
instance:TyB prog 301 40:=.of (by kernel_rfl)
instance:TyF prog 301 0 0 3:=.of (by kernel_rfl)
instance:TyF prog 301 1 1 52:=.of (by kernel_rfl)
instance:TyP prog 301 [(0,1),(1,4)]:=.of (by kernel_rfl)
instance:TyU prog 302 (.slice 301):=⟨by kernel_rfl⟩
instance:TyU prog 303 (.array 2 3):=⟨by kernel_rfl⟩
instance:TyN prog 303 true 2 [.int .i64 0,.int .i64 0]:=.of (by kernel_rfl) (by kernel_rfl)
instance:TyB prog 303 16:=.of (by kernel_rfl)
instance:TyN prog 305 true 5 [.int .i64 0,.int .i64 0,.int .i64 0,.bool false,.int .i64 0]:=.of (by kernel_rfl) (by kernel_rfl)
instance:TyB prog 305 40:=.of (by kernel_rfl)
instance:TyF prog 305 0 0 303:=.of (by kernel_rfl)
instance:TyF prog 305 1 2 3:=.of (by kernel_rfl)
instance:TyF prog 305 2 3 4:=.of (by kernel_rfl)
instance:TyF prog 305 3 4 3:=.of (by kernel_rfl)
instance:TyP prog 305 [(0,2),(2,1),(3,1),(4,1)]:=.of (by kernel_rfl)
instance:TyU prog 306 (.slice 305):=⟨by kernel_rfl⟩
instance:TyN prog 306 false 1 [.slice none 0 0]:=.of (by kernel_rfl) (by kernel_rfl)
instance:TyN prog 308 true 3 [.slice none 0 0,.slice none 0 0,.int .i64 0]:=.of (by kernel_rfl) (by kernel_rfl)
instance:TyF prog 308 0 0 306:=.of (by kernel_rfl)
instance:TyF prog 308 1 1 142:=.of (by kernel_rfl)
instance:TyF prog 308 2 2 3:=.of (by kernel_rfl)
instance:TyP prog 308 [(0,1),(1,1),(2,1)]:=.of (by kernel_rfl)
instance:TyU prog 354 (.slice 303):=⟨by kernel_rfl⟩
instance:TyN prog 354 false 1 [.slice none 0 0]:=.of (by kernel_rfl) (by kernel_rfl)
instance:TyN prog 356 true 3 [.slice none 0 0,.slice none 0 0,.int .i64 0]:=.of (by kernel_rfl) (by kernel_rfl)
instance:TyF prog 356 0 0 354:=.of (by kernel_rfl)
instance:TyF prog 356 1 1 208:=.of (by kernel_rfl)
instance:TyF prog 356 2 2 3:=.of (by kernel_rfl)
instance:TyP prog 356 [(0,1),(1,1),(2,1)]:=.of (by kernel_rfl)
instance:TyN prog 374 true 3 [.bool false,.slice none 0 0,.slice none 0 0]:=.of (by kernel_rfl) (by kernel_rfl)
instance:TyF prog 374 0 0 4:=.of (by kernel_rfl)
instance:TyF prog 374 1 1 55:=.of (by kernel_rfl)
instance:TyF prog 374 2 2 55:=.of (by kernel_rfl)
instance:TyP prog 374 [(0,1),(1,1),(2,1)]:=.of (by kernel_rfl)
instance:TyN prog 406 true 11 [.int .i64 0,.int .i64 0,.int .i64 0,.int .i64 0,.int .i64 0,.int .u64 0,.int .u64 0,.bool false,.int .u64 0,.int .u64 0,.bool false]:=.of (by kernel_rfl) (by kernel_rfl)
instance:TyF prog 406 2 2 3:=.of (by kernel_rfl)
instance:TyF prog 406 4 4 3:=.of (by kernel_rfl)
instance:TyF prog 406 5 5 50:=.of (by kernel_rfl)
instance:TyF prog 406 6 8 50:=.of (by kernel_rfl)
instance:TyP prog 406 [(0,1),(1,1),(2,1),(3,1),(4,1),(5,3),(8,3)]:=.of (by kernel_rfl)
instance:TyU prog 410 (.slice 418):=⟨by kernel_rfl⟩
instance:TyN prog 410 false 1 [.slice none 0 0]:=.of (by kernel_rfl) (by kernel_rfl)
instance:TyN prog 412 true 4 [.slice none 0 0,.int .i64 0,.int .i64 0,.int .i64 0]:=.of (by kernel_rfl) (by kernel_rfl)
instance:TyF prog 412 0 0 410:=.of (by kernel_rfl)
instance:TyF prog 412 1 1 3:=.of (by kernel_rfl)
instance:TyF prog 412 2 2 3:=.of (by kernel_rfl)
instance:TyF prog 412 3 3 3:=.of (by kernel_rfl)
instance:TyP prog 412 [(0,1),(1,1),(2,1),(3,1)]:=.of (by kernel_rfl)
instance:TyN prog 414 true 2 [.slice none 0 0,.int .i64 0]:=.of (by kernel_rfl) (by kernel_rfl)
instance:TyF prog 414 0 0 22:=.of (by kernel_rfl)
instance:TyF prog 414 1 1 3:=.of (by kernel_rfl)
instance:TyP prog 414 [(0,1),(1,1)]:=.of (by kernel_rfl)
instance:TyU prog 415 (.pointer 418):=⟨by kernel_rfl⟩
instance:TyN prog 418 true 7 [.int .u64 0,.int .u64 0,.bool false,.int .i64 0,.int .i64 0,.bool false,.int .i64 0]:=.of (by kernel_rfl) (by kernel_rfl)
instance:TyB prog 418 56:=.of (by kernel_rfl)
instance:TyF prog 418 0 0 54:=.of (by kernel_rfl)
instance:TyF prog 418 1 5 4:=.of (by kernel_rfl)
instance:TyF prog 418 2 6 3:=.of (by kernel_rfl)
instance:TyP prog 418 [(0,5),(5,1),(6,1)]:=.of (by kernel_rfl)
instance:TyU prog 477 (.slice 479):=⟨by kernel_rfl⟩
instance:TyN prog 479 true 2 [.int .i64 0,.int .i64 0]:=.of (by kernel_rfl) (by kernel_rfl)
instance:TyB prog 479 16:=.of (by kernel_rfl)
instance:TyF prog 479 0 0 3:=.of (by kernel_rfl)
instance:TyF prog 479 1 1 3:=.of (by kernel_rfl)
instance:TyP prog 479 [(0,1),(1,1)]:=.of (by kernel_rfl)
instance:TyN prog 505 false 1 [.nilFunc]:=.of (by kernel_rfl) (by kernel_rfl)
instance:TyN prog 507 true 2 [.int .i64 0,.nilFunc]:=.of (by kernel_rfl) (by kernel_rfl)
instance:TyF prog 507 1 1 505:=.of (by kernel_rfl)
instance:TyP prog 507 [(0,1),(1,1)]:=.of (by kernel_rfl)
instance:TyU prog 528 (.slice 22):=⟨by kernel_rfl⟩
instance:TyEq prog 50 [.int,.int,.bool]:=⟨⟨_,_,by kernel_rfl,rfl,by kernel_rfl,rfl,by kernel_rfl⟩⟩
instance:TyEq prog 52 [.int,.int,.bool,.int]:=⟨⟨_,_,by kernel_rfl,rfl,by kernel_rfl,rfl,by kernel_rfl⟩⟩
instance:TyEq prog 54 [.int,.int,.bool,.int,.int]:=⟨⟨_,_,by kernel_rfl,rfl,by kernel_rfl,rfl,by kernel_rfl⟩⟩
instance:TyEq prog 189 [.int,.int,.bool,.int,.int,.bool,.int,.int,.bool]:=⟨⟨_,_,by kernel_rfl,rfl,by kernel_rfl,rfl,by kernel_rfl⟩⟩
instance:TyEqA prog 303 2 .i64:=⟨⟨3,_,by kernel_rfl,by kernel_rfl,inferInstance,by kernel_rfl⟩⟩
instance:Mixed prog:=⟨by kernel_rfl⟩
instance:TyFn prog 4 f4:=⟨func4⟩
instance:TyFn prog 5 f5:=⟨func5⟩
instance:TyFn prog 7 f7:=⟨func7⟩
instance:TyFn prog 9 f9:=⟨func9⟩
instance:TyFn prog 11 f11:=⟨func11⟩
instance:TyFn prog 12 f12:=⟨func12⟩
instance:TyFn prog 13 f13:=⟨func13⟩
instance:TyFn prog 19 f19:=⟨func19⟩
instance:TyFn prog 20 f20:=⟨func20⟩
instance:TyFn prog 21 f21:=⟨func21⟩
instance:TyFn prog 22 f22:=⟨func22⟩
instance:TyFn prog 23 f23:=⟨func23⟩
instance:TyFn prog 24 f24:=⟨func24⟩
instance:TyFn prog 25 f25:=⟨func25⟩
instance:TyFn prog 26 f26:=⟨func26⟩
instance:TyFn prog 27 f27:=⟨func27⟩
instance:TyFn prog 28 f28:=⟨func28⟩
instance:TyFn prog 29 f29:=⟨func29⟩
instance:TyFn prog 30 f30:=⟨func30⟩
instance:TyFn prog 31 f31:=⟨func31⟩
instance:TyFn prog 32 f32:=⟨func32⟩
instance:TyFn prog 33 f33:=⟨func33⟩
instance:TyFn prog 34 f34:=⟨func34⟩
instance:TyFn prog 35 f35:=⟨func35⟩
instance:TyFn prog 36 f36:=⟨func36⟩
instance:TyFn prog 37 f37:=⟨func37⟩
instance:TyFn prog 38 f38:=⟨func38⟩
instance:TyFn prog 42 f42:=⟨func42⟩
instance:TyFn prog 43 f43:=⟨func43⟩
instance:TyFn prog 46 f46:=⟨func46⟩
instance:TyFn prog 47 f47:=⟨func47⟩
instance:TyFn prog 48 f48:=⟨func48⟩
instance:TyFn prog 50 f50:=⟨func50⟩
instance:TyFn prog 51 f51:=⟨func51⟩
instance:TyFn prog 53 f53:=⟨func53⟩
instance:TyFn prog 54 f54:=⟨func54⟩
instance:TyFn prog 55 f55:=⟨func55⟩
instance:TyFn prog 56 f56:=⟨func56⟩
instance:TyFn prog 57 f57:=⟨func57⟩
instance:TyFn prog 58 f58:=⟨func58⟩
instance:TyFn prog 65 f65:=⟨func65⟩
instance:TyFn prog 66 f66:=⟨func66⟩
instance:TyFn prog 67 f67:=⟨func67⟩
instance:TyFn prog 68 f68:=⟨func68⟩
instance:TyFn prog 69 f69:=⟨func69⟩
instance:TyFn prog 70 f70:=⟨func70⟩
instance:TyFn prog 71 f71:=⟨func71⟩
instance:TyFn prog 72 f72:=⟨func72⟩
instance:TyFn prog 73 f73:=⟨func73⟩
instance:TyFn prog 74 f74:=⟨func74⟩
instance:TyFn prog 75 f75:=⟨func75⟩
instance:TyFn prog 76 f76:=⟨func76⟩
instance:TyFn prog 77 f77:=⟨func77⟩
instance:TyFn prog 78 f78:=⟨func78⟩
instance:TyFn prog 79 f79:=⟨func79⟩
instance:TyFn prog 80 f80:=⟨func80⟩
instance:TyFn prog 81 f81:=⟨func81⟩
instance:TyFn prog 82 f82:=⟨func82⟩
instance:TyFn prog 83 f83:=⟨func83⟩
instance:TyFn prog 84 f84:=⟨func84⟩
instance:TyFn prog 85 f85:=⟨func85⟩
instance:TyFn prog 86 f86:=⟨func86⟩
instance:TyFn prog 87 f87:=⟨func87⟩
instance:TyFn prog 88 f88:=⟨func88⟩
instance:TyFn prog 89 f89:=⟨func89⟩
instance:TyFn prog 90 f90:=⟨func90⟩
instance:TyFn prog 91 f91:=⟨func91⟩
instance:TyFn prog 92 f92:=⟨func92⟩
instance:TyFn prog 93 f93:=⟨func93⟩
instance:TyFn prog 97 f97:=⟨func97⟩
instance:TyFn prog 98 f98:=⟨func98⟩
instance:TyFn prog 99 f99:=⟨func99⟩
instance:TyFn prog 100 f100:=⟨func100⟩
instance:TyFn prog 101 f101:=⟨func101⟩
instance:TyFn prog 102 f102:=⟨func102⟩
instance:TyFn prog 103 f103:=⟨func103⟩
instance:TyFn prog 104 f104:=⟨func104⟩
instance:TyFn prog 110 f110:=⟨func110⟩
instance:TyFn prog 111 f111:=⟨func111⟩
instance:TyFn prog 112 f112:=⟨func112⟩
instance:TyFn prog 113 f113:=⟨func113⟩
instance:TyFn prog 116 f116:=⟨func116⟩
instance:TyFn prog 117 f117:=⟨func117⟩
instance:TyFn prog 118 f118:=⟨func118⟩
instance:TyFn prog 119 f119:=⟨func119⟩
instance:TyFn prog 122 f122:=⟨func122⟩
instance:TyFn prog 123 f123:=⟨func123⟩
instance:TyFn prog 124 f124:=⟨func124⟩
instance:TyFn prog 125 f125:=⟨func125⟩
instance:TyFn prog 126 f126:=⟨func126⟩
instance:TyFn prog 127 f127:=⟨func127⟩
instance:TyFn prog 128 f128:=⟨func128⟩
instance:TyFn prog 129 f129:=⟨func129⟩
instance:TyFn prog 130 f130:=⟨func130⟩
instance:TyFn prog 131 f131:=⟨func131⟩
instance:TyFn prog 132 f132:=⟨func132⟩
instance:TyFn prog 133 f133:=⟨func133⟩
instance:TyFn prog 139 f139:=⟨func139⟩
instance:TyFn prog 140 f140:=⟨func140⟩
instance:TyFn prog 141 f141:=⟨func141⟩
instance:TyFn prog 142 f142:=⟨func142⟩
instance:TyFn prog 143 f143:=⟨func143⟩
instance:TyFn prog 144 f144:=⟨func144⟩
instance:TyFn prog 145 f145:=⟨func145⟩
instance:TyFn prog 146 f146:=⟨func146⟩
instance:TyFn prog 147 f147:=⟨func147⟩
instance:TyFn prog 148 f148:=⟨func148⟩
instance:TyFn prog 149 f149:=⟨func149⟩
instance:TyFn prog 150 f150:=⟨func150⟩
instance:TyFn prog 151 f151:=⟨func151⟩
instance:TyFn prog 152 f152:=⟨func152⟩
instance:TyFn prog 153 f153:=⟨func153⟩
instance:TyFn prog 154 f154:=⟨func154⟩
instance:TyFn prog 155 f155:=⟨func155⟩
instance:TyFn prog 156 f156:=⟨func156⟩
instance:TyFn prog 157 f157:=⟨func157⟩
instance:TyFn prog 158 f158:=⟨func158⟩
instance:TyFn prog 159 f159:=⟨func159⟩
instance:TyFn prog 160 f160:=⟨func160⟩
instance:TyFn prog 161 f161:=⟨func161⟩
instance:TyFn prog 162 f162:=⟨func162⟩
instance:TyFn prog 163 f163:=⟨func163⟩
instance:TyFn prog 164 f164:=⟨func164⟩
instance:TyFn prog 165 f165:=⟨func165⟩
instance:TyFn prog 166 f166:=⟨func166⟩
instance:TyFn prog 167 f167:=⟨func167⟩
instance:TyFn prog 168 f168:=⟨func168⟩
instance:TyFn prog 169 f169:=⟨func169⟩
instance:TyFn prog 170 f170:=⟨func170⟩
instance:TyFn prog 171 f171:=⟨func171⟩
instance:TyFn prog 175 f175:=⟨func175⟩
instance:TyFn prog 176 f176:=⟨func176⟩
instance:TyFn prog 177 f177:=⟨func177⟩
instance:TyFn prog 178 f178:=⟨func178⟩
instance:TyFn prog 179 f179:=⟨func179⟩
instance:TyFn prog 180 f180:=⟨func180⟩
instance:TyFn prog 181 f181:=⟨func181⟩
instance:TyFn prog 182 f182:=⟨func182⟩
instance:TyFn prog 183 f183:=⟨func183⟩
instance:TyFn prog 191 f191:=⟨func191⟩
instance:TyFn prog 192 f192:=⟨func192⟩
instance:TyFn prog 193 f193:=⟨func193⟩
instance:TyFn prog 194 f194:=⟨func194⟩
instance:TyFn prog 195 f195:=⟨func195⟩
instance:TyFn prog 196 f196:=⟨func196⟩
instance:TyFn prog 197 f197:=⟨func197⟩
instance:TyFn prog 201 f201:=⟨func201⟩
instance:TyFn prog 202 f202:=⟨func202⟩
instance:TyFn prog 203 f203:=⟨func203⟩
instance:TyFn prog 204 f204:=⟨func204⟩
instance:TyFn prog 210 f210:=⟨func210⟩
instance:TyFn prog 211 f211:=⟨func211⟩
instance:TyFn prog 212 f212:=⟨func212⟩
instance:TyFn prog 213 f213:=⟨func213⟩
instance:TyFn prog 214 f214:=⟨func214⟩
instance:TyFn prog 215 f215:=⟨func215⟩
instance:TyFn prog 216 f216:=⟨func216⟩
instance:TyFn prog 217 f217:=⟨func217⟩
instance:TyFn prog 218 f218:=⟨func218⟩
instance:TyFn prog 219 f219:=⟨func219⟩
instance:TyFn prog 220 f220:=⟨func220⟩
instance:TyFn prog 221 f221:=⟨func221⟩
instance:TyFn prog 222 f222:=⟨func222⟩
instance:TyFn prog 223 f223:=⟨func223⟩
instance:TyFn prog 224 f224:=⟨func224⟩
instance:TyFn prog 225 f225:=⟨func225⟩
instance:TyFn prog 226 f226:=⟨func226⟩
instance:TyFn prog 227 f227:=⟨func227⟩
instance:TyFn prog 228 f228:=⟨func228⟩
instance:TyFn prog 229 f229:=⟨func229⟩
instance:TyFn prog 230 f230:=⟨func230⟩
instance:TyFn prog 231 f231:=⟨func231⟩
instance:TyFn prog 232 f232:=⟨func232⟩
instance:TyFn prog 233 f233:=⟨func233⟩
instance:TyFn prog 234 f234:=⟨func234⟩
instance:TyFn prog 235 f235:=⟨func235⟩
instance:TyFn prog 236 f236:=⟨func236⟩
instance:TyFn prog 237 f237:=⟨func237⟩
instance:TyFn prog 238 f238:=⟨func238⟩
instance:TyFn prog 239 f239:=⟨func239⟩
instance:TyFn prog 240 f240:=⟨func240⟩
instance:TyFn prog 241 f241:=⟨func241⟩
instance:TyFn prog 242 f242:=⟨func242⟩
instance:TyFn prog 243 f243:=⟨func243⟩
instance:TyFn prog 244 f244:=⟨func244⟩
instance:TyFn prog 245 f245:=⟨func245⟩
instance:TyFn prog 246 f246:=⟨func246⟩
instance:TyFn prog 247 f247:=⟨func247⟩
instance:TyFn prog 248 f248:=⟨func248⟩
instance:TyFn prog 249 f249:=⟨func249⟩
instance:TyFn prog 251 f251:=⟨func251⟩
instance:TyFn prog 252 f252:=⟨func252⟩
instance:TyFn prog 253 f253:=⟨func253⟩
instance:TyFn prog 254 f254:=⟨func254⟩
instance:TyFn prog 255 f255:=⟨func255⟩
instance:TyFn prog 256 f256:=⟨func256⟩
instance:TyFn prog 257 f257:=⟨func257⟩
instance:TyFn prog 265 f265:=⟨func265⟩
instance:TyFn prog 266 f266:=⟨func266⟩
instance:TyFn prog 267 f267:=⟨func267⟩
instance:TyFn prog 268 f268:=⟨func268⟩
instance:TyFn prog 272 f272:=⟨func272⟩
instance:TyFn prog 273 f273:=⟨func273⟩
instance:TyFn prog 274 f274:=⟨func274⟩
instance:TyFn prog 281 f281:=⟨func281⟩
instance:TyFn prog 282 f282:=⟨func282⟩
instance:TyFn prog 283 f283:=⟨func283⟩
instance:TyFn prog 284 f284:=⟨func284⟩
instance:TyFn prog 285 f285:=⟨func285⟩
instance:TyFn prog 289 f289:=⟨func289⟩
instance:TyFn prog 290 f290:=⟨func290⟩
instance:TyFn prog 291 f291:=⟨func291⟩
instance:TyFn prog 292 f292:=⟨func292⟩
instance:TyFn prog 293 f293:=⟨func293⟩
instance:TyFn prog 294 f294:=⟨func294⟩
instance:TyFn prog 295 f295:=⟨func295⟩
instance:TyFn prog 296 f296:=⟨func296⟩
instance:TyFn prog 297 f297:=⟨func297⟩
instance:TyFn prog 298 f298:=⟨func298⟩
instance:TyFn prog 299 f299:=⟨func299⟩
instance:TyFn prog 300 f300:=⟨func300⟩
instance:TyFn prog 301 f301:=⟨func301⟩
instance:TyFn prog 302 f302:=⟨func302⟩
instance:TyFn prog 303 f303:=⟨func303⟩
instance:TyFn prog 304 f304:=⟨func304⟩
instance:TyFn prog 305 f305:=⟨func305⟩
instance:TyFn prog 306 f306:=⟨func306⟩
instance:TyFn prog 307 f307:=⟨func307⟩
instance:TyFn prog 308 f308:=⟨func308⟩
instance:TyFn prog 312 f312:=⟨func312⟩
instance:TyFn prog 313 f313:=⟨func313⟩
instance:TyFn prog 314 f314:=⟨func314⟩
instance:TyFn prog 315 f315:=⟨func315⟩
instance:TyFn prog 316 f316:=⟨func316⟩
instance:TyFn prog 317 f317:=⟨func317⟩
instance:TyFn prog 349 f349:=⟨func349⟩
instance:TyFn prog 350 f350:=⟨func350⟩
instance:TyFn prog 352 f352:=⟨func352⟩
instance:TyFn prog 353 f353:=⟨func353⟩
instance:TyFn prog 354 f354:=⟨func354⟩
instance:TyFn prog 355 f355:=⟨func355⟩
instance:TyFn prog 356 f356:=⟨func356⟩
instance:TyFn prog 357 f357:=⟨func357⟩
instance:TyFn prog 358 f358:=⟨func358⟩
instance:TyFn prog 361 f361:=⟨func361⟩
instance:TyFn prog 384 f384:=⟨func384⟩
instance:TyFn prog 385 f385:=⟨func385⟩
instance:TyFn prog 387 f387:=⟨func387⟩
instance:TyFn prog 388 f388:=⟨func388⟩
instance:TyFn prog 389 f389:=⟨func389⟩
instance:TyFn prog 390 f390:=⟨func390⟩
instance:TyFn prog 391 f391:=⟨func391⟩
instance:TyFn prog 393 f393:=⟨func393⟩
instance:TyFn prog 394 f394:=⟨func394⟩
instance:TyFn prog 410 f410:=⟨func410⟩
instance:TyFn prog 411 f411:=⟨func411⟩
instance:TyFn prog 412 f412:=⟨func412⟩
instance:TyFn prog 413 f413:=⟨func413⟩
instance:TyFn prog 414 f414:=⟨func414⟩
instance:TyFn prog 415 f415:=⟨func415⟩
instance:TyFn prog 416 f416:=⟨func416⟩
instance:TyFn prog 419 f419:=⟨func419⟩
instance:TyFn prog 421 f421:=⟨func421⟩
instance:TyFn prog 422 f422:=⟨func422⟩
instance:TyFn prog 424 f424:=⟨func424⟩
instance:TyFn prog 426 f426:=⟨func426⟩
instance:TyRes prog 4 [.tmp 4]:=⟨f4,func4,rfl⟩
instance:TyRes prog 5 [.tmp 4]:=⟨f5,func5,rfl⟩
instance:TyRes prog 7 [.tmp 8]:=⟨f7,func7,rfl⟩
instance:TyRes prog 9 [.tmp 4]:=⟨f9,func9,rfl⟩
instance:TyRes prog 11 [.tmp 0]:=⟨f11,func11,rfl⟩
instance:TyRes prog 12 [.cell 2 26,.tmp 3]:=⟨f12,func12,rfl⟩
instance:TyRes prog 13 [.tmp 2]:=⟨f13,func13,rfl⟩
instance:TyRes prog 19 [.tmp 4]:=⟨f19,func19,rfl⟩
instance:TyRes prog 20 [.cell 4 26,.tmp 5]:=⟨f20,func20,rfl⟩
instance:TyRes prog 21 [.tmp 4,.tmp 5]:=⟨f21,func21,rfl⟩
instance:TyRes prog 22 [.cell 2 50,.tmp 3,.tmp 4]:=⟨f22,func22,rfl⟩
instance:TyRes prog 23 [.cell 2 81,.tmp 3]:=⟨f23,func23,rfl⟩
instance:TyRes prog 24 [.tmp 4,.tmp 5]:=⟨f24,func24,rfl⟩
instance:TyRes prog 25 [.tmp 2]:=⟨f25,func25,rfl⟩
instance:TyRes prog 26 [.cell 4 40]:=⟨f26,func26,rfl⟩
instance:TyRes prog 27 [.tmp 2]:=⟨f27,func27,rfl⟩
instance:TyRes prog 28 [.tmp 2,.tmp 3]:=⟨f28,func28,rfl⟩
instance:TyRes prog 29 [.cell 2 95]:=⟨f29,func29,rfl⟩
instance:TyRes prog 30 [.cell 2 99]:=⟨f30,func30,rfl⟩
instance:TyRes prog 31 [.cell 4 69]:=⟨f31,func31,rfl⟩
instance:TyRes prog 32 [.cell 6 40,.tmp 7]:=⟨f32,func32,rfl⟩
instance:TyRes prog 33 [.cell 4 40,.tmp 5]:=⟨f33,func33,rfl⟩
instance:TyRes prog 34 [.tmp 4]:=⟨f34,func34,rfl⟩
instance:TyRes prog 35 [.tmp 2]:=⟨f35,func35,rfl⟩
instance:TyRes prog 36 [.tmp 2]:=⟨f36,func36,rfl⟩
instance:TyRes prog 37 [.tmp 2]:=⟨f37,func37,rfl⟩
instance:TyRes prog 38 [.tmp 4]:=⟨f38,func38,rfl⟩
instance:TyRes prog 42 [.cell 4 54,.tmp 5,.tmp 6]:=⟨f42,func42,rfl⟩
instance:TyRes prog 43 [.tmp 4]:=⟨f43,func43,rfl⟩
instance:TyRes prog 46 [.tmp 4]:=⟨f46,func46,rfl⟩
instance:TyRes prog 47 [.tmp 4]:=⟨f47,func47,rfl⟩
instance:TyRes prog 48 [.cell 2 136]:=⟨f48,func48,rfl⟩
instance:TyRes prog 50 [.tmp 4]:=⟨f50,func50,rfl⟩
instance:TyRes prog 51 [.tmp 2]:=⟨f51,func51,rfl⟩
instance:TyRes prog 53 [.cell 2 50,.tmp 3]:=⟨f53,func53,rfl⟩
instance:TyRes prog 54 [.tmp 4]:=⟨f54,func54,rfl⟩
instance:TyRes prog 55 [.tmp 4]:=⟨f55,func55,rfl⟩
instance:TyRes prog 56 [.tmp 2]:=⟨f56,func56,rfl⟩
instance:TyRes prog 57 [.tmp 4]:=⟨f57,func57,rfl⟩
instance:TyRes prog 58 [.cell 0 154]:=⟨f58,func58,rfl⟩
instance:TyRes prog 65 [.tmp 4]:=⟨f65,func65,rfl⟩
instance:TyRes prog 66 [.cell 2 169,.cell 3 171,.tmp 4]:=⟨f66,func66,rfl⟩
instance:TyRes prog 67 [.cell 2 81]:=⟨f67,func67,rfl⟩
instance:TyRes prog 68 [.tmp 2]:=⟨f68,func68,rfl⟩
instance:TyRes prog 69 [.tmp 4]:=⟨f69,func69,rfl⟩
instance:TyRes prog 70 [.tmp 2]:=⟨f70,func70,rfl⟩
instance:TyRes prog 71 [.tmp 2]:=⟨f71,func71,rfl⟩
instance:TyRes prog 72 [.tmp 2]:=⟨f72,func72,rfl⟩
instance:TyRes prog 73 [.cell 0 38]:=⟨f73,func73,rfl⟩
instance:TyRes prog 74 [.tmp 2]:=⟨f74,func74,rfl⟩
instance:TyRes prog 75 [.tmp 2]:=⟨f75,func75,rfl⟩
instance:TyRes prog 76 [.tmp 2]:=⟨f76,func76,rfl⟩
instance:TyRes prog 77 [.cell 4 65]:=⟨f77,func77,rfl⟩
instance:TyRes prog 78 [.tmp 6,.tmp 7]:=⟨f78,func78,rfl⟩
instance:TyRes prog 79 [.tmp 4,.tmp 5]:=⟨f79,func79,rfl⟩
instance:TyRes prog 80 [.tmp 2]:=⟨f80,func80,rfl⟩
instance:TyRes prog 81 [.cell 4 66,.tmp 5]:=⟨f81,func81,rfl⟩
instance:TyRes prog 82 [.tmp 4]:=⟨f82,func82,rfl⟩
instance:TyRes prog 83 [.tmp 6]:=⟨f83,func83,rfl⟩
instance:TyRes prog 84 []:=⟨f84,func84,rfl⟩
instance:TyRes prog 85 [.tmp 2]:=⟨f85,func85,rfl⟩
instance:TyRes prog 86 [.tmp 2]:=⟨f86,func86,rfl⟩
instance:TyRes prog 87 [.cell 6 38,.tmp 7]:=⟨f87,func87,rfl⟩
instance:TyRes prog 88 [.tmp 2]:=⟨f88,func88,rfl⟩
instance:TyRes prog 89 [.cell 4 38,.tmp 5]:=⟨f89,func89,rfl⟩
instance:TyRes prog 90 [.tmp 2]:=⟨f90,func90,rfl⟩
instance:TyRes prog 91 [.tmp 4]:=⟨f91,func91,rfl⟩
instance:TyRes prog 92 [.cell 2 54]:=⟨f92,func92,rfl⟩
instance:TyRes prog 93 [.cell 4 54,.tmp 5]:=⟨f93,func93,rfl⟩
instance:TyRes prog 97 [.tmp 2]:=⟨f97,func97,rfl⟩
instance:TyRes prog 98 [.tmp 2]:=⟨f98,func98,rfl⟩
instance:TyRes prog 99 []:=⟨f99,func99,rfl⟩
instance:TyRes prog 100 [.cell 4 54,.tmp 5]:=⟨f100,func100,rfl⟩
instance:TyRes prog 101 [.cell 4 54,.tmp 5]:=⟨f101,func101,rfl⟩
instance:TyRes prog 102 [.tmp 4]:=⟨f102,func102,rfl⟩
instance:TyRes prog 103 [.tmp 2]:=⟨f103,func103,rfl⟩
instance:TyRes prog 104 [.cell 4 52]:=⟨f104,func104,rfl⟩
instance:TyRes prog 110 [.cell 4 54,.cell 5 4]:=⟨f110,func110,rfl⟩
instance:TyRes prog 111 [.tmp 4]:=⟨f111,func111,rfl⟩
instance:TyRes prog 112 [.tmp 4]:=⟨f112,func112,rfl⟩
instance:TyRes prog 113 [.tmp 2]:=⟨f113,func113,rfl⟩
instance:TyRes prog 116 [.tmp 2]:=⟨f116,func116,rfl⟩
instance:TyRes prog 117 [.tmp 4]:=⟨f117,func117,rfl⟩
instance:TyRes prog 118 [.cell 2 52]:=⟨f118,func118,rfl⟩
instance:TyRes prog 119 [.cell 4 3]:=⟨f119,func119,rfl⟩
instance:TyRes prog 122 [.cell 4 50]:=⟨f122,func122,rfl⟩
instance:TyRes prog 123 []:=⟨f123,func123,rfl⟩
instance:TyRes prog 124 [.tmp 2]:=⟨f124,func124,rfl⟩
instance:TyRes prog 125 [.tmp 4]:=⟨f125,func125,rfl⟩
instance:TyRes prog 126 []:=⟨f126,func126,rfl⟩
instance:TyRes prog 127 []:=⟨f127,func127,rfl⟩
instance:TyRes prog 128 []:=⟨f128,func128,rfl⟩
instance:TyRes prog 129 []:=⟨f129,func129,rfl⟩
instance:TyRes prog 130 []:=⟨f130,func130,rfl⟩
instance:TyRes prog 131 []:=⟨f131,func131,rfl⟩
instance:TyRes prog 132 []:=⟨f132,func132,rfl⟩
instance:TyRes prog 133 []:=⟨f133,func133,rfl⟩
instance:TyRes prog 138 []:=⟨f138,func138,rfl⟩
instance:TyRes prog 139 [.cell 2 169,.tmp 3]:=⟨f139,func139,rfl⟩
instance:TyRes prog 140 [.tmp 2]:=⟨f140,func140,rfl⟩
instance:TyRes prog 141 []:=⟨f141,func141,rfl⟩
instance:TyRes prog 142 []:=⟨f142,func142,rfl⟩
instance:TyRes prog 143 [.tmp 2]:=⟨f143,func143,rfl⟩
instance:TyRes prog 144 [.tmp 4]:=⟨f144,func144,rfl⟩
instance:TyRes prog 145 [.tmp 4]:=⟨f145,func145,rfl⟩
instance:TyRes prog 146 [.cell 2 99]:=⟨f146,func146,rfl⟩
instance:TyRes prog 147 [.cell 2 136]:=⟨f147,func147,rfl⟩
instance:TyRes prog 148 [.tmp 2]:=⟨f148,func148,rfl⟩
instance:TyRes prog 149 [.cell 4 54]:=⟨f149,func149,rfl⟩
instance:TyRes prog 150 [.tmp 2]:=⟨f150,func150,rfl⟩
instance:TyRes prog 151 [.cell 4 65]:=⟨f151,func151,rfl⟩
instance:TyRes prog 152 [.tmp 4]:=⟨f152,func152,rfl⟩
instance:TyRes prog 153 [.tmp 6]:=⟨f153,func153,rfl⟩
instance:TyRes prog 154 [.tmp 6,.tmp 7]:=⟨f154,func154,rfl⟩
instance:TyRes prog 155 [.tmp 3]:=⟨f155,func155,rfl⟩
instance:TyRes prog 156 [.tmp 4]:=⟨f156,func156,rfl⟩
instance:TyRes prog 157 [.tmp 2]:=⟨f157,func157,rfl⟩
instance:TyRes prog 158 [.cell 6 66,.tmp 7]:=⟨f158,func158,rfl⟩
instance:TyRes prog 159 [.tmp 4]:=⟨f159,func159,rfl⟩
instance:TyRes prog 160 [.tmp 4]:=⟨f160,func160,rfl⟩
instance:TyRes prog 161 [.tmp 6]:=⟨f161,func161,rfl⟩
instance:TyRes prog 162 [.tmp 3]:=⟨f162,func162,rfl⟩
instance:TyRes prog 163 [.tmp 4]:=⟨f163,func163,rfl⟩
instance:TyRes prog 164 []:=⟨f164,func164,rfl⟩
instance:TyRes prog 165 [.tmp 2]:=⟨f165,func165,rfl⟩
instance:TyRes prog 166 [.tmp 2]:=⟨f166,func166,rfl⟩
instance:TyRes prog 167 [.tmp 4]:=⟨f167,func167,rfl⟩
instance:TyRes prog 168 [.tmp 4]:=⟨f168,func168,rfl⟩
instance:TyRes prog 169 [.tmp 2]:=⟨f169,func169,rfl⟩
instance:TyRes prog 170 [.tmp 4]:=⟨f170,func170,rfl⟩
instance:TyRes prog 171 [.cell 4 52,.tmp 5]:=⟨f171,func171,rfl⟩
instance:TyRes prog 175 [.cell 2 246]:=⟨f175,func175,rfl⟩
instance:TyRes prog 176 [.cell 6 136]:=⟨f176,func176,rfl⟩
instance:TyRes prog 177 [.tmp 4,.tmp 5]:=⟨f177,func177,rfl⟩
instance:TyRes prog 178 []:=⟨f178,func178,rfl⟩
instance:TyRes prog 179 [.cell 4 54,.tmp 5]:=⟨f179,func179,rfl⟩
instance:TyRes prog 180 [.tmp 2]:=⟨f180,func180,rfl⟩
instance:TyRes prog 181 [.cell 6 99,.tmp 7]:=⟨f181,func181,rfl⟩
instance:TyRes prog 182 [.tmp 2]:=⟨f182,func182,rfl⟩
instance:TyRes prog 183 [.cell 4 50]:=⟨f183,func183,rfl⟩
instance:TyRes prog 191 [.tmp 2]:=⟨f191,func191,rfl⟩
instance:TyRes prog 192 [.tmp 4]:=⟨f192,func192,rfl⟩
instance:TyRes prog 193 [.tmp 4]:=⟨f193,func193,rfl⟩
instance:TyRes prog 194 [.tmp 2]:=⟨f194,func194,rfl⟩
instance:TyRes prog 195 [.tmp 2]:=⟨f195,func195,rfl⟩
instance:TyRes prog 196 [.tmp 2]:=⟨f196,func196,rfl⟩
instance:TyRes prog 197 [.tmp 4]:=⟨f197,func197,rfl⟩
instance:TyRes prog 201 [.tmp 2]:=⟨f201,func201,rfl⟩
instance:TyRes prog 202 [.tmp 4]:=⟨f202,func202,rfl⟩
instance:TyRes prog 203 []:=⟨f203,func203,rfl⟩
instance:TyRes prog 204 [.cell 2 52]:=⟨f204,func204,rfl⟩
instance:TyRes prog 210 [.cell 2 171,.tmp 3]:=⟨f210,func210,rfl⟩
instance:TyRes prog 211 [.tmp 2,.tmp 3]:=⟨f211,func211,rfl⟩
instance:TyRes prog 212 [.cell 2 171,.tmp 3]:=⟨f212,func212,rfl⟩
instance:TyRes prog 213 [.tmp 2,.tmp 3]:=⟨f213,func213,rfl⟩
instance:TyRes prog 214 [.tmp 0]:=⟨f214,func214,rfl⟩
instance:TyRes prog 215 [.tmp 2]:=⟨f215,func215,rfl⟩
instance:TyRes prog 216 [.tmp 2]:=⟨f216,func216,rfl⟩
instance:TyRes prog 217 [.tmp 4]:=⟨f217,func217,rfl⟩
instance:TyRes prog 218 [.cell 4 54,.tmp 5]:=⟨f218,func218,rfl⟩
instance:TyRes prog 219 [.tmp 2]:=⟨f219,func219,rfl⟩
instance:TyRes prog 220 [.tmp 2]:=⟨f220,func220,rfl⟩
instance:TyRes prog 221 [.cell 4 65]:=⟨f221,func221,rfl⟩
instance:TyRes prog 222 [.tmp 2]:=⟨f222,func222,rfl⟩
instance:TyRes prog 223 [.tmp 2]:=⟨f223,func223,rfl⟩
instance:TyRes prog 224 [.tmp 6,.tmp 7]:=⟨f224,func224,rfl⟩
instance:TyRes prog 225 [.tmp 4]:=⟨f225,func225,rfl⟩
instance:TyRes prog 226 [.tmp 4]:=⟨f226,func226,rfl⟩
instance:TyRes prog 227 [.tmp 6]:=⟨f227,func227,rfl⟩
instance:TyRes prog 228 [.tmp 4]:=⟨f228,func228,rfl⟩
instance:TyRes prog 229 [.tmp 6]:=⟨f229,func229,rfl⟩
instance:TyRes prog 230 [.tmp 4,.tmp 5]:=⟨f230,func230,rfl⟩
instance:TyRes prog 231 []:=⟨f231,func231,rfl⟩
instance:TyRes prog 232 [.tmp 6]:=⟨f232,func232,rfl⟩
instance:TyRes prog 233 [.tmp 4]:=⟨f233,func233,rfl⟩
instance:TyRes prog 234 [.cell 4 99,.tmp 5]:=⟨f234,func234,rfl⟩
instance:TyRes prog 235 [.tmp 4]:=⟨f235,func235,rfl⟩
instance:TyRes prog 236 [.cell 4 66]:=⟨f236,func236,rfl⟩
instance:TyRes prog 237 [.cell 4 54]:=⟨f237,func237,rfl⟩
instance:TyRes prog 238 [.tmp 4]:=⟨f238,func238,rfl⟩
instance:TyRes prog 239 [.tmp 4]:=⟨f239,func239,rfl⟩
instance:TyRes prog 240 [.cell 4 54,.tmp 5]:=⟨f240,func240,rfl⟩
instance:TyRes prog 241 [.tmp 4]:=⟨f241,func241,rfl⟩
instance:TyRes prog 242 [.cell 6 374]:=⟨f242,func242,rfl⟩
instance:TyRes prog 243 []:=⟨f243,func243,rfl⟩
instance:TyRes prog 244 [.tmp 4]:=⟨f244,func244,rfl⟩
instance:TyRes prog 245 [.tmp 4]:=⟨f245,func245,rfl⟩
instance:TyRes prog 246 [.tmp 4]:=⟨f246,func246,rfl⟩
instance:TyRes prog 247 []:=⟨f247,func247,rfl⟩
instance:TyRes prog 248 [.tmp 6]:=⟨f248,func248,rfl⟩
instance:TyRes prog 249 [.cell 6 50]:=⟨f249,func249,rfl⟩
instance:TyRes prog 251 [.cell 4 246]:=⟨f251,func251,rfl⟩
instance:TyRes prog 252 [.tmp 4]:=⟨f252,func252,rfl⟩
instance:TyRes prog 253 [.cell 4 214,.tmp 5]:=⟨f253,func253,rfl⟩
instance:TyRes prog 254 [.tmp 4]:=⟨f254,func254,rfl⟩
instance:TyRes prog 255 [.tmp 4]:=⟨f255,func255,rfl⟩
instance:TyRes prog 256 [.cell 6 99,.tmp 7]:=⟨f256,func256,rfl⟩
instance:TyRes prog 257 [.cell 4 246]:=⟨f257,func257,rfl⟩
instance:TyRes prog 265 []:=⟨f265,func265,rfl⟩
instance:TyRes prog 266 [.tmp 7]:=⟨f266,func266,rfl⟩
instance:TyRes prog 267 [.tmp 2]:=⟨f267,func267,rfl⟩
instance:TyRes prog 268 []:=⟨f268,func268,rfl⟩
instance:TyRes prog 272 [.cell 2 77]:=⟨f272,func272,rfl⟩
instance:TyRes prog 273 [.tmp 2]:=⟨f273,func273,rfl⟩
instance:TyRes prog 274 [.tmp 4]:=⟨f274,func274,rfl⟩
instance:TyRes prog 281 [.tmp 6]:=⟨f281,func281,rfl⟩
instance:TyRes prog 282 [.cell 2 406,.tmp 3]:=⟨f282,func282,rfl⟩
instance:TyRes prog 283 [.cell 2 305]:=⟨f283,func283,rfl⟩
instance:TyRes prog 284 [.tmp 4]:=⟨f284,func284,rfl⟩
instance:TyRes prog 285 [.tmp 2]:=⟨f285,func285,rfl⟩
instance:TyRes prog 289 [.tmp 2]:=⟨f289,func289,rfl⟩
instance:TyRes prog 290 [.tmp 4]:=⟨f290,func290,rfl⟩
instance:TyRes prog 291 [.tmp 4]:=⟨f291,func291,rfl⟩
instance:TyRes prog 292 [.tmp 4]:=⟨f292,func292,rfl⟩
instance:TyRes prog 293 [.tmp 2]:=⟨f293,func293,rfl⟩
instance:TyRes prog 294 [.tmp 4]:=⟨f294,func294,rfl⟩
instance:TyRes prog 295 []:=⟨f295,func295,rfl⟩
instance:TyRes prog 296 [.cell 6 99,.cell 7 54,.tmp 8]:=⟨f296,func296,rfl⟩
instance:TyRes prog 297 [.tmp 4]:=⟨f297,func297,rfl⟩
instance:TyRes prog 298 [.tmp 4]:=⟨f298,func298,rfl⟩
instance:TyRes prog 299 []:=⟨f299,func299,rfl⟩
instance:TyRes prog 300 [.cell 2 52,.tmp 3]:=⟨f300,func300,rfl⟩
instance:TyRes prog 301 [.cell 2 52,.tmp 3]:=⟨f301,func301,rfl⟩
instance:TyRes prog 302 [.cell 4 52]:=⟨f302,func302,rfl⟩
instance:TyRes prog 303 [.tmp 4]:=⟨f303,func303,rfl⟩
instance:TyRes prog 304 [.tmp 2]:=⟨f304,func304,rfl⟩
instance:TyRes prog 305 [.tmp 2]:=⟨f305,func305,rfl⟩
instance:TyRes prog 306 [.cell 2 54]:=⟨f306,func306,rfl⟩
instance:TyRes prog 307 [.tmp 4,.tmp 5]:=⟨f307,func307,rfl⟩
instance:TyRes prog 308 [.tmp 4]:=⟨f308,func308,rfl⟩
instance:TyRes prog 312 [.tmp 2]:=⟨f312,func312,rfl⟩
instance:TyRes prog 313 [.tmp 4]:=⟨f313,func313,rfl⟩
instance:TyRes prog 314 []:=⟨f314,func314,rfl⟩
instance:TyRes prog 315 []:=⟨f315,func315,rfl⟩
instance:TyRes prog 316 [.tmp 6]:=⟨f316,func316,rfl⟩
instance:TyRes prog 317 []:=⟨f317,func317,rfl⟩
instance:TyRes prog 349 [.cell 2 406]:=⟨f349,func349,rfl⟩
instance:TyRes prog 350 [.tmp 4]:=⟨f350,func350,rfl⟩
instance:TyRes prog 352 [.cell 4 99,.cell 5 114,.tmp 6]:=⟨f352,func352,rfl⟩
instance:TyRes prog 353 [.tmp 2]:=⟨f353,func353,rfl⟩
instance:TyRes prog 354 [.tmp 4]:=⟨f354,func354,rfl⟩
instance:TyRes prog 355 [.cell 6 52]:=⟨f355,func355,rfl⟩
instance:TyRes prog 356 [.tmp 2]:=⟨f356,func356,rfl⟩
instance:TyRes prog 357 [.tmp 4]:=⟨f357,func357,rfl⟩
instance:TyRes prog 358 [.tmp 4,.tmp 5]:=⟨f358,func358,rfl⟩
instance:TyRes prog 361 [.tmp 4]:=⟨f361,func361,rfl⟩
instance:TyRes prog 384 [.tmp 2]:=⟨f384,func384,rfl⟩
instance:TyRes prog 385 [.tmp 4]:=⟨f385,func385,rfl⟩
instance:TyRes prog 387 [.tmp 6]:=⟨f387,func387,rfl⟩
instance:TyRes prog 388 [.cell 3 54,.tmp 4]:=⟨f388,func388,rfl⟩
instance:TyRes prog 389 []:=⟨f389,func389,rfl⟩
instance:TyRes prog 390 [.cell 2 507]:=⟨f390,func390,rfl⟩
instance:TyRes prog 391 [.tmp 4]:=⟨f391,func391,rfl⟩
instance:TyRes prog 393 [.tmp 2]:=⟨f393,func393,rfl⟩
instance:TyRes prog 394 [.tmp 4]:=⟨f394,func394,rfl⟩
instance:TyRes prog 410 [.tmp 4]:=⟨f410,func410,rfl⟩
instance:TyRes prog 411 [.tmp 4]:=⟨f411,func411,rfl⟩
instance:TyRes prog 412 [.tmp 2]:=⟨f412,func412,rfl⟩
instance:TyRes prog 413 []:=⟨f413,func413,rfl⟩
instance:TyRes prog 414 []:=⟨f414,func414,rfl⟩
instance:TyRes prog 415 [.tmp 2]:=⟨f415,func415,rfl⟩
instance:TyRes prog 416 [.tmp 2]:=⟨f416,func416,rfl⟩
instance:TyRes prog 419 []:=⟨f419,func419,rfl⟩
instance:TyRes prog 421 []:=⟨f421,func421,rfl⟩
instance:TyRes prog 422 []:=⟨f422,func422,rfl⟩
instance:TyRes prog 424 []:=⟨f424,func424,rfl⟩
instance:TyRes prog 426 []:=⟨f426,func426,rfl⟩
end Go.KL
end
section
namespace Go.KM
open Go Go.KL
theorem zDH {x:Nat} (h:x<18446744073709551616):IntKind.u64.wrap (x:Int)=x:=YR (by omega)
theorem YK {a:Nat}:BitVec.ofInt 64 (a:Int)=BitVec.ofNat 64 a:=by simp
theorem zFC {a b:Nat} (ha:a<18446744073709551616):XX .u64 a b=((a&&& b%18446744073709551616:Nat):Int):=by
 unfold XX;show IntKind.u64.wrap ((BitVec.ofInt 64 (a:Int)&&& BitVec.ofInt 64 (b:Int)).toNat:Int)=_;rw [YK,YK,zDH]
 ·simp [BitVec.toNat_and,BitVec.toNat_ofNat,Nat.mod_eq_of_lt ha]
 ·exact (BitVec.ofNat 64 a&&& BitVec.ofNat 64 b).isLt
theorem zBG {a b:Nat} (ha:a<18446744073709551616) (hb:b<18446744073709551616):orI .u64 a b=((a ||| b:Nat):Int):=by
 unfold orI;show IntKind.u64.wrap ((BitVec.ofInt 64 (a:Int) ||| BitVec.ofInt 64 (b:Int)).toNat:Int)=_;rw [YK,YK,zDH]
 ·simp [BitVec.toNat_or,BitVec.toNat_ofNat,Nat.mod_eq_of_lt ha,Nat.mod_eq_of_lt hb]
 ·exact (BitVec.ofNat 64 a ||| BitVec.ofNat 64 b).isLt
def vE (a b:Nat):Nat:=(BitVec.ofNat 64 a&&& ~~~BitVec.ofNat 64 b).toNat
theorem Zr {a b:Nat}:vE a b<18446744073709551616:=(BitVec.ofNat 64 a&&& ~~~BitVec.ofNat 64 b).isLt
theorem Yn {a b:Nat}:zEW .u64 a b=(vE a b:Int):=by
 unfold zEW vE;show IntKind.u64.wrap ((BitVec.ofInt 64 (a:Int)&&& ~~~BitVec.ofInt 64 (b:Int)).toNat:Int)=_;rw [YK,YK,zDH];exact (BitVec.ofNat 64 a&&& ~~~BitVec.ofNat 64 b).isLt
theorem ZV {a b i:Nat}:(vE a b).testBit i=(decide (i<64)&&a.testBit i&&!b.testBit i):=by
 unfold vE;rw [BitVec.testBit_toNat];simp only [BitVec.getLsbD_and,BitVec.getLsbD_not,BitVec.getLsbD_ofNat];by_cases h:i<64 <;> simp [h]
def topN (k x:Nat):Nat:=x / 2^(64-k)*2^(64-k)
theorem wT {k x i:Nat}:(topN k x).testBit i=(x.testBit i&&decide (64-k<=i)):=by
 unfold topN;rw [<-Nat.shiftLeft_eq,<-Nat.shiftRight_eq_div_pow,Nat.testBit_shiftLeft,Nat.testBit_shiftRight];by_cases h:64-k<=i
 ·simp only [ge_iff_le,h,decide_true,Bool.true_and,Bool.and_true];congr 1;omega
 ·simp [h]
theorem zMy {k x:Nat}:topN k x<=x:=Nat.div_mul_le_self x _
theorem wZ {k x:Nat} (h:x<18446744073709551616):topN k x<18446744073709551616:=Nat.lt_of_le_of_lt zMy h
def WH (n:Nat):Nat:=topN n 18446744073709551615
theorem zFF {i:Nat}:(18446744073709551615:Nat).testBit i=decide (i<64):=by
 have:=Nat.testBit_two_pow_sub_one 64 i
 exact this
theorem WY {n i:Nat}:(WH n).testBit i=(decide (i<64)&&decide (64-n<=i)):=by
 unfold WH;rw [wT,zFF]
theorem zAv {n:Nat}:WH n<18446744073709551616:=wZ (by decide)
theorem zJe {x i:Nat} (h:x<18446744073709551616) (hi:¬ i<64):x.testBit i=false:=by
 apply Nat.testBit_lt_two_pow;refine Nat.lt_of_lt_of_le h ?_;show 2^64<=_;exact Nat.pow_le_pow_right (by omega) (by omega)
theorem zLX {j k x:Nat}:topN j (topN k x)=topN (min j k) x:=by
 apply Nat.eq_of_testBit_eq;intro i;rw [wT,wT,wT];by_cases h:64-k<=i <;> by_cases g:64-j<=i <;> by_cases e:64-min j k<=i <;> simp [h,g,e] <;> (try omega)
theorem zFi {k x:Nat} (h:64<=k):topN k x=x:=by
 apply Nat.eq_of_testBit_eq;intro i;rw [wT];simp;(try omega)
theorem zH3 {x:Nat} (h:x<18446744073709551616):topN 0 x=0:=by
 unfold topN;rw [Nat.div_eq_of_lt h]
theorem zFB {x n:Nat} (h:x<18446744073709551616):x&&& WH n=topN n x:=by
 apply Nat.eq_of_testBit_eq;intro i;rw [Nat.testBit_and,WY,wT];by_cases g:i<64
 ·simp [g]
 ·simp [zJe h g]
theorem JG {x a b:Nat} (h:x<18446744073709551616) (hab:a<=b):vE (topN b x) (vE (WH b) (WH a))=topN a x:=by
 apply Nat.eq_of_testBit_eq;intro i;rw [ZV,ZV,WY,WY,wT,wT];by_cases g:i<64
 ·by_cases e:64-a<=i <;> by_cases f:64-b<=i <;> simp [g,e,f] <;> (try omega)
 ·simp [zJe h g]
theorem zCq {a:Nat} (h:a<18446744073709551616):vE a 0=a:=by
 apply Nat.eq_of_testBit_eq;intro i;rw [ZV];by_cases g:i<64
 ·simp [g]
 ·simp [g,zJe h g]
theorem zAH {a b:Nat}:decide ((a:Int)=(b:Int))=decide (a=b):=by
 by_cases h:a=b
 ·simp [h]
 ·have:¬ (a:Int)=(b:Int):=by omega
  simp [h,this]
theorem zAf:WH 0=0:=by decide
def wrd:List Nat->Nat->Nat
 | _,0=>0
 | l,n+1=>wrd l n+(l.drop n).headD 0*2^(56-8*n)
theorem zFU {l:List Nat} (hl:∀ x∈l,x<256):∀ {n:Nat},n<=8->∃ q,wrd l n=q*2^(64-8*n)/\q<2^(8*n)
 | 0,_=>⟨0,by simp [wrd],by simp⟩
 | n+1,h=>by
  obtain ⟨q,h1,h2⟩:=zFU hl (n:=n) (by omega)
  have hb:(l.drop n).headD 0<256:=by
   cases h':l.drop n with
   | nil=>simp
   | cons a m=>exact hl a (List.mem_of_mem_drop (i:=n) (by rw [h'];simp))
  refine ⟨q*256+(l.drop n).headD 0,?_,?_⟩
  ·rw [wrd,h1,show 64-8*n=8+(56-8*n) by omega,show 64-8*(n+1)=56-8*n by omega,Nat.pow_add,Nat.add_mul,Nat.mul_assoc]
  ·rw [show 8*(n+1)=8*n+8 by omega,Nat.pow_add]
   have:q+1<=2^(8*n):=h2
   have:=Nat.mul_le_mul_right 256 this
   omega
theorem zGB {l:List Nat} (hl:∀ x∈l,x<256) {n:Nat} (h:n<8):wrd l n ||| (l.drop n).headD 0*2^(56-8*n)=wrd l (n+1):=by
 obtain ⟨q,h1,h2⟩:=zFU hl (n:=n) (by omega)
 have hb:(l.drop n).headD 0<256:=by
  cases h':l.drop n with
  | nil=>simp
  | cons a m=>exact hl a (List.mem_of_mem_drop (i:=n) (by rw [h'];simp))
 rw [wrd,h1,show 64-8*n=8+(56-8*n) by omega,Nat.pow_add,<-Nat.mul_assoc,<-Nat.add_mul]
 generalize (l.drop n).headD 0=c at hb;have hk:(q*2^8 ||| c)=q*2^8+c:=by
  rw [<-Nat.shiftLeft_eq];exact (Nat.shiftLeft_add_eq_or_of_lt hb q).symm
 rw [<-hk];simp only [<-Nat.shiftLeft_eq];rw [Nat.shiftLeft_or_distrib]
theorem zDJ {l:List Nat} {i:Nat} (h:i<l.length):l[i]?=some ((l.drop i).headD 0):=by
 have:(l.drop i)[0]?=l[i]?:=by simp
 rw [<-this];cases h':l.drop i with
 | nil=>rw [List.drop_eq_nil_iff] at h';omega
 | cons a m=>simp
theorem vF {l:List Nat} (hl:∀ x∈l,x<256) (i:Nat):(l.drop i).headD 0<256:=by
 cases h':l.drop i with
 | nil=>simp
 | cons a m=>exact hl a (List.mem_of_mem_drop (i:=i) (by rw [h'];simp))
theorem QK {b:Nat} {k:Int} {e:Nat} (hb:b<256) (he:e<=56) (hk:k=e):WO .u64 (b:Int) k=((b*2^e:Nat):Int):=by
 subst hk;unfold WO;rw [show min ((e:Int).toNat) IntKind.u64.bits=e by show min ((e:Int).toNat) 64=e;omega]
 have h1:(b:Int)*2^e=((b*2^e:Nat):Int):=by simp
 rw [h1,zDH];have:=Nat.pow_le_pow_right (n:=2) (by omega) he
 have h2:b*2^e<256*2^56:=Nat.lt_of_lt_of_le (Nat.mul_lt_mul_of_pos_right hb (Nat.two_pow_pos e)) (Nat.mul_le_mul_left 256 this);exact h2
theorem xR {l:List Nat} (hl:∀ x∈l,x<256) {n:Nat} (h:n<=8):wrd l n<18446744073709551616:=by
 obtain ⟨q,h1,h2⟩:=zFU hl h;rw [h1];have:q*2^(64-8*n)<2^(8*n)*2^(64-8*n):=Nat.mul_lt_mul_of_pos_right h2 (Nat.two_pow_pos _)
 rw [<-Nat.pow_add,show 8*n+(64-8*n)=64 by omega] at this
 exact this
end Go.KM
end
section
namespace Go.Proofs.YtjcbjclhagobiaaGreat
open Go Go.KL Go.KM
variable {E:Env} {X:Xs}
noncomputable abbrev PR:=Tryz.prog
abbrev u64 (x:Nat):Value:=.int .u64 (x:Int)
def width (v6:Bool):Nat:=if v6 then 128 else 32
theorem yO (q:Bool):Does PR E X 180 [.bool q] [] (fun v t=>v=.int .i64 (width q:Int)/\t=[]):=by
 refine Does.of 4 inferInstance rfl (by decide) rfl ?_
 refine zB ?_;refine zH (fun h=>?_) (fun h=>?_)
 ·refine zB ?_;refine ret ?_;exact ends ⟨by subst h;rfl,rfl⟩
 ·refine zB ?_;refine ret ?_;exact ends ⟨by subst h;rfl,rfl⟩
theorem zLz {n:Nat} (h:n<=64) (h0:n≠0):WO .u64 18446744073709551615 (64-(n:Int))=(WH n:Int):=by
 unfold WO;have e:min (64-(n:Int)).toNat IntKind.u64.bits=64-n:=by
  show min (64-(n:Int)).toNat 64=_;omega
 rw [e];have:(18446744073709551615*2^(64-n):Int)=((18446744073709551615*2^(64-n):Nat):Int):=by simp
 rw [this];show ((18446744073709551615*2^(64-n):Nat):Int)%18446744073709551616=_;have key:18446744073709551615*2^(64-n)%18446744073709551616=WH n:=by
  apply Nat.eq_of_testBit_eq;intro i;rw [WY,show (18446744073709551616:Nat)=2^64 from rfl,Nat.testBit_mod_two_pow,<-Nat.shiftLeft_eq,Nat.testBit_shiftLeft,zFF];by_cases g:i<64 <;> by_cases e:64-n<=i <;> simp [g,e];omega
 rw [<-key];rfl
theorem Wf (z:Int) (h0:0<=z) (h1:z<=64):Does PR E X 312 [.int .i64 z] [] (fun v t=>v=u64 (WH z.toNat)/\t=[]):=by
 obtain ⟨n,rfl⟩:=Int.eq_ofNat_of_zero_le h0;refine Does.of 9 inferInstance rfl (by decide) rfl ?_
 refine zB ?_;refine zH (fun h0=>?_) (fun h0=>?_)
 ·refine zB ?_;refine ret ?_;exact ends ⟨by simp at h0;simp [h0,zAf],rfl⟩
 ·refine zB ?_;refine ret ?_;exact ends ⟨by simp at h0;simp [zLz (n:=n) (by omega) h0],rfl⟩
def JZ (x y:Nat):Nat:=vE (WH (min y 64)) (WH (min x 64))
theorem zC6 (x y:Int) (hx:0<=x/\x<=1000) (hy:0<=y/\y<=1000):Does PR E X 251 [.int .i64 x,.int .i64 y] [] (fun v t=>v=.agg #[u64 (JZ x.toNat y.toNat),u64 (JZ (x.toNat-64) (y.toNat-64))]/\t=[]):=by
 refine Does.of 33 inferInstance rfl (by decide) rfl ?_
 refine zB ?_;refine alloc fun b4=>?_;refine zB ?_;refine alloc fun b5=>?_;refine zB ?_;refine Wc ?_;refine zB ?_;refine yes ?_;refine zB ?_;refine call (Wf _ (by omega) (by omega)) ?_
 rintro _ _ ⟨rfl,rfl⟩;refine zB ?_;refine call (Wf _ (by omega) (by omega)) ?_
 rintro _ _ ⟨rfl,rfl⟩;refine zB ?_;refine again ?_;refine zB ?_;refine yes ?_;refine zB ?_;refine call (Wf _ (by omega) (by omega)) ?_
 rintro _ _ ⟨rfl,rfl⟩;refine zB ?_;refine call (Wf _ (by omega) (by omega)) ?_
 rintro _ _ ⟨rfl,rfl⟩;refine zB ?_;refine again ?_;refine zB ?_;refine no ?_;refine zB ?_;refine ret ?_;refine ends ⟨?_,rfl⟩;have e1:(max 0 (min (y-0*64) 64)).toNat=min y.toNat 64:=by omega
 have e2:(max 0 (min (x-0*64) 64)).toNat=min x.toNat 64:=by omega
 have e3:(max 0 (min (y-(0+1)*64) 64)).toNat=min (y.toNat-64) 64:=by omega
 have e4:(max 0 (min (x-(0+1)*64) 64)).toNat=min (x.toNat-64) 64:=by omega
 simp only [pack_one,JZ,Yn,e1,e2,e3,e4,u64]
def zPL (c hi lo:Nat) (v6:Bool):Value:=.agg #[u64 (topN (min c 64) hi),u64 (topN (c-64) lo),.bool v6]
theorem zO1 {w:Nat}:JZ 0 w=WH (min w 64):=by unfold JZ;rw [show min 0 64=0 from rfl,zAf,zCq zAv]
theorem ZX (hi lo:Nat) (v6:Bool) (h1:hi<18446744073709551616) (h2:lo<18446744073709551616):Does PR E X 175 [.agg #[u64 hi,u64 lo,.bool v6]] [] (fun v t=>v=.agg #[u64 (topN (min (width v6) 64) hi),u64 (topN (width v6-64) lo)]/\t=[]):=by
 refine Does.of 27 inferInstance rfl (by decide) rfl ?_
 have hw:width v6<=128:=by cases v6 <;> decide
 refine zB ?_;refine zU fun b1=>?_;refine zB ?_;refine alloc fun b2=>?_;refine zB ?_;refine alloc fun b3=>?_;refine zB ?_;refine call (yO _) ?_;rintro _ _ ⟨rfl,rfl⟩;refine zB ?_;refine call (zC6 _ _ (by omega) (by omega)) ?_
 rintro _ _ ⟨rfl,rfl⟩;refine zB ?_;refine Wc ?_;refine zB ?_;refine yes ?_;refine zB ?_;refine again ?_;refine zB ?_;refine yes ?_;refine zB ?_;refine again ?_;refine zB ?_;refine no ?_;refine zB ?_;refine ret ?_;refine ends ⟨?_,rfl⟩;simp only [pack_one,Int.toNat_zero,Int.toNat_natCast,zO1,Nat.zero_sub,u64];rw [zFC h1,zFC h2,Nat.mod_eq_of_lt zAv,Nat.mod_eq_of_lt zAv,zFB h1,zFB h2];have e1:min (width v6-64) 64=width v6-64:=by omega
 rw [e1]
theorem YW (x y:Nat) (q:Bool):Does PR E X 122 [.agg #[u64 x,u64 y],.bool q] [] (fun v t=>v=.agg #[u64 x,u64 y,.bool q]/\t=[]):=by
 refine Does.of 11 inferInstance rfl (by decide) rfl ?_
 refine zB ?_;refine zU fun b1=>?_;refine zB ?_;refine alloc fun b2=>?_;refine zB ?_;refine ret ?_;exact ends ⟨rfl,rfl⟩
def QB (hi lo:Nat) (v6:Bool):Bool:=decide (topN (min (width v6) 64) hi=hi)&&decide (topN (width v6-64) lo=lo)
theorem Wq (hi lo:Nat) (v6:Bool) (h1:hi<18446744073709551616) (h2:lo<18446744073709551616):Does PR E X 98 [.agg #[u64 hi,u64 lo,.bool v6]] [] (fun v t=>v=.bool (QB hi lo v6)/\t=[]):=by
 refine Does.of 10 inferInstance rfl (by decide) rfl ?_
 refine zB ?_;refine zU fun b1=>?_;refine zB ?_;refine draw [0,1,0,4,15,0,63,127] [1,4,7] [0,3,5] [0,2,3,5,1,4,6,7] ?_;refine zC ?_;refine call (ZX hi lo v6 h1 h2) ?_;rintro _ _ ⟨rfl,rfl⟩;refine zJ ?_;refine zC ?_;refine call (YW _ _ _) ?_;rintro _ _ ⟨rfl,rfl⟩;refine zJ ?_;refine zC ?_;refine zB ?_;refine ret ?_;refine ends ⟨?_,rfl⟩;simp [zAH,QB]
def yT (n:Int) (v6:Bool):Nat:=(max 0 (min n (width v6:Int))).toNat
theorem zHv (x y:Nat) (v6:Bool) (n:Int):Does PR E X 257 [.agg #[u64 x,u64 y,.bool v6],.int .i64 n] [] (fun v t=>v=.agg #[u64 (JZ (yT n v6) (width v6)),u64 (JZ (yT n v6-64) (width v6-64))]/\t=[]):=by
 refine Does.of 15 inferInstance rfl (by decide) rfl ?_
 have hw:width v6<=128:=by cases v6 <;> decide
 refine zB ?_;refine zU fun b1=>?_;refine zB ?_;refine alloc fun b2=>?_;refine zB ?_;refine call (yO _) ?_;rintro _ _ ⟨rfl,rfl⟩;refine zB ?_;refine call (zC6 _ _ (by omega) (by omega)) ?_
 rintro _ _ ⟨rfl,rfl⟩;refine zB ?_;refine ret ?_;exact ends ⟨by simp [yT],rfl⟩
theorem zJO {a b:Nat}:JZ (a-64) (b-64)=vE (WH (min (b-64) 64)) (WH (min (a-64) 64)):=rfl
theorem zBk (hi lo:Nat) (v6:Bool) (n:Int) (h1:hi<18446744073709551616) (h2:lo<18446744073709551616):Does PR E X 183 [.agg #[u64 hi,u64 lo,.bool v6],.int .i64 n] [] (fun v t=>v=zPL (yT n v6) hi lo v6/\t=[]):=by
 refine Does.of 28 inferInstance rfl (by decide) rfl ?_
 have hw:width v6<=128:=by cases v6 <;> decide
 refine zB ?_;refine zU fun b1=>?_;refine zB ?_;refine alloc fun b2=>?_;refine zB ?_;refine call (ZX hi lo v6 h1 h2) ?_;rintro _ _ ⟨rfl,rfl⟩;refine zB ?_;refine alloc fun b5=>?_;refine zB ?_;refine call (zHv hi lo v6 n) ?_;rintro _ _ ⟨rfl,rfl⟩;refine zB ?_;refine Wc ?_;refine zB ?_;refine yes ?_;refine zB ?_;refine again ?_;refine zB ?_;refine yes ?_;refine zB ?_;refine again ?_;refine zB ?_;refine no ?_;refine zB ?_;rw [Yn,Yn];refine call (YW _ _ _) ?_;rintro _ _ ⟨rfl,rfl⟩;refine zB ?_;refine ret ?_;refine ends ⟨?_,rfl⟩;have hc:yT n v6<=width v6:=by unfold yT;omega
 simp only [pack_one,zPL];have k1:vE (topN (min (width v6) 64) hi) (JZ (yT n v6) (width v6))=topN (min (yT n v6) 64) hi:=JG h1 (by omega)
 have k2:vE (topN (width v6-64) lo) (JZ (yT n v6-64) (width v6-64))=topN (yT n v6-64) lo:=by
  have e1:min (width v6-64) 64=width v6-64:=by omega
  have e2:min (yT n v6-64) 64=yT n v6-64:=by omega
  rw [zJO,e1,e2];exact JG h2 (by omega)
 rw [k1,k2]
def ZG (v6:Bool) (n:Nat):Nat:=min ((n+7) / 8) (width v6 / 8)
theorem JE (v6:Bool) (n:Int) (h0:0<=n) (h1:n<=1000000):Does PR E X 274 [.bool v6,.int .i64 n] [] (fun v t=>v=.int .i64 (ZG v6 n.toNat:Int)/\t=[]):=by
 refine Does.of 13 inferInstance rfl (by decide) rfl ?_
 have hw:width v6<=128:=by cases v6 <;> decide
 refine zB ?_;refine call (yO _) ?_;rintro _ _ ⟨rfl,rfl⟩;refine zB ?_;refine ret ?_;refine ends ⟨?_,rfl⟩;simp only [pack_one,ZG];congr 1;omega
theorem Ww (hi lo:Nat) (v6:Bool) (n:Int) (h1:hi<18446744073709551616) (h2:lo<18446744073709551616):Does PR E X 104 [.agg #[u64 hi,u64 lo,.bool v6],.int .i64 n] [] (fun v t=>v=.agg #[u64 (topN (min (yT n v6) 64) hi),u64 (topN (yT n v6-64) lo),.bool v6,.int .i64 (yT n v6:Int)]/\t=[]):=by
 refine Does.of 16 inferInstance rfl (by decide) rfl ?_
 refine zB ?_;refine zU fun b1=>?_;refine zB ?_;refine alloc fun b2=>?_;refine zB ?_;refine call (yO _) ?_;rintro _ _ ⟨rfl,rfl⟩;refine zB ?_;refine call (zBk hi lo v6 _ h1 h2) ?_;rintro _ _ ⟨rfl,rfl⟩;refine zB ?_;refine ret ?_;refine ends ⟨?_,rfl⟩;have hc:yT ((yT n v6:Nat):Int) v6=yT n v6:=by unfold yT;omega
 have hd:max 0 (min n (width v6:Int))=(yT n v6:Int):=by unfold yT;omega
 simp only [pack_one,hd,hc]
end Go.Proofs.YtjcbjclhagobiaaGreat
end
section
namespace Go.Proofs.YtjcbjclhagobiaaGreat
open Go Go.KL Go.KM
variable {E:Env} {X:Xs}
theorem ZM (rb:Nat) (T:TypeId) (l:List Nat) (hl:∀ x∈l,x<256) (base:Option Addr) (cap:Nat):Does PR E X 56 [.pointer (some ⟨rb,0,none⟩)] [box rb [.slice base l.length cap] T,rsl base cap 1 (l.map u8e)]
  (fun v t=>∃ base' cap',v=.int .i64 (l.headD 0:Int)/\t=[box rb [.slice base' l.tail.length cap'] T,rsl base' cap' 1 (l.tail.map u8e)]):=by
 refine Does.of 26 inferInstance rfl (by decide) rfl ?_
 refine zDx base fun hcap=>?_;simp only [List.length_map] at hcap;refine zB ?_;refine zH (fun h=>?_) (fun h=>?_)
 ·refine zB ?_;refine ret ?_;have:l=[]:=by simpa using h
  subst this;exact ends ⟨base,cap,rfl,rfl⟩
 ·obtain ⟨a,m,rfl⟩:∃ a m,l=a::m:=by
   cases l with
   | nil=>simp at h
   | cons a m=>exact ⟨a,m,rfl⟩
  have ha:=hl a (by simp)
  refine zB ?_;simp only [List.length_cons] at hcap;refine into (Jq base (cap:=cap) (sz:=1) (es:=(a::m).map u8e) 1 m.length (es':=m.map u8e) (by omega) (by simp [List.take_of_length_le])) ?_
  refine ret ?_;exact ends ⟨slB base cap 1 1,cap-1,rfl,rfl⟩
def QH (l:List Nat):Nat->Nat
 | 0=>0
 | i+1=>QH l i*256%18446744073709551616 ||| (l.drop i).headD 0
theorem JF (rb:Nat) (T:TypeId) (l:List Nat) (hl:∀ x∈l,x<256) (base:Option Addr) (cap:Nat) (k:Nat) (hk:k<=8):Does PR E X 57 [.pointer (some ⟨rb,0,none⟩),.int .i64 (k:Int)] [box rb [.slice base l.length cap] T,rsl base cap 1 (l.map u8e)]
  (fun v t=>∃ base' cap',v=.int .u64 (QH l k:Int)/\t=[box rb [.slice base' (l.drop k).length cap'] T,rsl base' cap' 1 ((l.drop k).map u8e)]):=by
 refine Does.of 17 inferInstance rfl (by decide) rfl ?_
 refine zB ?_;refine loop (ι:=Nat×Option Addr×Nat) (fun i=>k-i.1) (fun i=>i.1<=k) (fun i=>[(0,.pointer (some ⟨rb,0,none⟩)),(6,.int .i64 (k:Int)),(7,.int .i64 (i.1:Int)),(5,.int .u64 (QH l i.1:Int))]) (fun i=>[box rb [.slice i.2.1 (l.drop i.1).length i.2.2] T,rsl i.2.1 i.2.2 1 ((l.drop i.1).map u8e)]) (0,base,cap) (by simp) ?_
 rintro ⟨i,ba,ca⟩ hi ih;(try dsimp only at hi ih ⊢);refine zB ?_;refine zH (fun h=>?_) (fun h=>?_)
 ·refine zB ?_;refine call (ZM rb T (l.drop i) (fun x hx=>hl x (List.mem_of_mem_drop hx)) ba ca) ?_;rintro _ _ ⟨b2,c2,rfl,rfl⟩;have hb:(l.drop i).headD 0<256:=by
   cases h':l.drop i with
   | nil=>simp
   | cons a m=>exact hl a (List.mem_of_mem_drop (i:=i) (by rw [h'];simp))
  refine zB ?_;have e1:WO .u64 (QH l i:Int) 8=((QH l i*256%18446744073709551616:Nat):Int):=by
   unfold WO;show ((QH l i:Int)*256)%18446744073709551616=_;omega
  rw [e1,zBG (Nat.mod_lt _ (by decide)) (by omega)]
  rw [show (l.drop i).tail=l.drop (i+1) by simp [List.tail_drop]]
  exact next (ih (i+1,b2,c2) (by simp at h;omega) (by simp at h;dsimp only;omega))
 ·refine zB ?_;refine ret ?_;have:i=k:=by simp at h;omega
  subst this;exact ends ⟨ba,ca,rfl,rfl⟩
theorem ZP (l:List Nat) (base:Option Addr) (cap n:Nat) (hnl:l.length=n) (hl:l.length<=1000000000):Does PR E X 70 [.slice base n cap] [rsl base cap 1 (l.map u8e)]
  (fun v t=>∃ base' cap',v=.slice base' l.length cap'/\t=[osl base' cap' 5 1 (l.map u8e)]):=by
 subst hnl;refine Does.of 8 inferInstance rfl (by decide) rfl ?_
 refine zDx base fun hcap=>?_;simp only [List.length_map] at hcap;refine zB ?_;refine zH (fun h=>?_) (fun h=>?_)
 ·refine W.pure (p:=l=[]) (fun r f hp=>?_) fun hn=>?_
  ·obtain ⟨_,_,_,_,_,⟨_,h2,h3,_⟩,_⟩:=hp;have hc:=h3 (by simpa using h)
   simp at h2;exact List.eq_nil_of_length_eq_zero (by omega)
  ·subst hn;refine zB ?_;refine into (Into.nilO (T:=5) (sz:=1)) ?_;refine ret ?_;exact ends ⟨none,0,rfl,rfl⟩
 ·refine zB ?_;refine buildSlice fun b5=>?_;refine zB ?_;refine zA8 fun b6 c6=>?_;refine zB ?_;refine ret ?_;refine ends ⟨b6,c6,by simp,rfl⟩
theorem zKO (l:List Nat) (hl:∀ x∈l,x<256) (v6:Bool) (hlen:l.length=width v6 / 8) (base:Option Addr) (cap:Nat) (T:TypeId):Does PR E X 53 [.slice base (width v6 / 8) cap] [osl base cap T 1 (l.map u8e)]
  (fun v t=>v=.tuple #[.agg #[u64 (wrd l (min (width v6 / 8) 8)),u64 (wrd (l.drop 8) (width v6 / 8-8)),.bool v6],.int .i64 0]/\t=[osl base cap T 1 (l.map u8e)]):=by
 refine Does.of 46 inferInstance rfl (by decide) rfl ?_
 refine zB ?_;refine alloc fun b2=>?_;refine zB ?_;have hw:width v6=128∨width v6=32:=by cases v6 <;> simp [width]
 have hv6:decide (((width v6 / 8:Nat):Int)=16)=v6:=by cases v6 <;> rfl
 refine no ?_ rfl (by cases v6 <;> rfl)
 refine zB ?_;refine alloc fun b5=>?_;refine zB ?_;refine loop (ι:=Nat) (fun i=>width v6 / 8-i) (fun i=>i<=width v6 / 8) (fun i=>[(2,.pointer (some ⟨b2,0,none⟩)),(4,.bool (decide (((width v6 / 8:Nat):Int)=16))),(5,.pointer (some ⟨b5,0,none⟩)),(20,.slice base (width v6 / 8) cap),(21,.int .i64 ((width v6 / 8:Nat):Int)),(22,.int .i64 (i:Int))]) (fun i=>[box b5 [u64 (wrd l (min i 8)),u64 (wrd (l.drop 8) (i-8))] 246,osl base cap T 1 (l.map u8e),box b2 [u64 0,u64 0,.bool false] 50]) 0 (by simp) ?_
 intro i hi ih;(try dsimp only at hi ih ⊢);refine zB ?_;refine zH (fun h=>?_) (fun h=>?_)
 ·have hi':i<width v6 / 8:=by have:=of_decide_eq_true h;omega
  have hx:=zDJ (l:=l) (i:=i) (by omega)
  have hb:=vF hl i;refine zB ?_;rcases Nat.lt_or_ge i 8 with h8|h8
  ·have hd:((i:Int)*8 / 64)=0:=by omega
   simp only [hd];refine zB ?_;have e1:WO .u64 (((l.drop i).headD 0:Nat):Int) (56-(i:Int)*8%64)=(((l.drop i).headD 0*2^(56-8*i):Nat):Int):=QK hb (by omega) (by omega)
   have e2:min i 8=i:=by omega
   have e3:i-8=(i+1)-8:=by omega
   have e4:min (i+1) 8=i+1:=by omega
   have h1:(l.drop i).headD 0*2^(56-8*i)<18446744073709551616:=by
    have:=xR hl (n:=i+1) (by omega)
    rw [wrd] at this;omega
   have e5:orI .u64 ((wrd l (min i 8):Nat):Int) (((l.drop i).headD 0*2^(56-8*i):Nat):Int)=(wrd l (min (i+1) 8):Nat):=by
    rw [e2,zBG (xR hl (by omega)) h1,zGB hl h8,e4]
   simp only [e1,e5,e3];exact next (ih (i+1) (by omega) (by omega))
  ·have hd:((i:Int)*8 / 64)=1:=by omega
   simp only [hd];refine zB ?_;have hl2:∀ x∈l.drop 8,x<256:=fun x hx=>hl x (List.mem_of_mem_drop hx);have e1:WO .u64 (((l.drop i).headD 0:Nat):Int) (56-(i:Int)*8%64)=(((l.drop i).headD 0*2^(56-8*(i-8)):Nat):Int):=QK hb (by omega) (by omega)
   have e2:min i 8=min (i+1) 8:=by omega
   have e4:i+1-8=(i-8)+1:=by omega
   have e6:(l.drop i)=(l.drop 8).drop (i-8):=by rw [List.drop_drop];congr 1;omega
   have h1:(l.drop i).headD 0*2^(56-8*(i-8))<18446744073709551616:=by
    have:=xR hl2 (n:=(i-8)+1) (by omega)
    rw [wrd,<-e6] at this;omega
   have e5:orI .u64 ((wrd (l.drop 8) (i-8):Nat):Int) (((l.drop i).headD 0*2^(56-8*(i-8)):Nat):Int)=(wrd (l.drop 8) (i+1-8):Nat):=by
    rw [zBG (xR hl2 (by omega)) h1,e4,<-zGB hl2 (by omega),<-e6]
   simp only [e1,e5,e2];exact next (ih (i+1) (by omega) (by omega))
 ·have hi':i=width v6 / 8:=by have:=of_decide_eq_false h;omega
  subst hi';refine zB ?_;refine call (YW _ _ _) ?_;rintro _ _ ⟨rfl,rfl⟩;refine zB ?_;refine ret ?_;exact ends ⟨by simp only [pack_two,hv6],rfl⟩
end Go.Proofs.YtjcbjclhagobiaaGreat
end
section
namespace Go.Proofs.YtjcbjclhagobiaaGreat
open Go Go.KL Go.KM
variable {E:Env} {X:Xs}
theorem zAJ (a b:Int):Does PR E X 202 [.int .i64 a,.int .i64 b] [] (fun v t=>v=.bool (decide (0<=a)&&decide (a<b))/\t=[]):=by
 refine Does.of 12 inferInstance rfl (by decide) rfl ?_
 refine zB ?_;refine ret ?_;exact ends ⟨rfl,rfl⟩
def Ym (l:List Nat):Nat->List Nat
 | 0=>[]
 | n+1=>Ym l n++[(l.drop n).headD 0]
@[simp] theorem takeZ_len {l:List Nat}:∀ {n:Nat},(Ym l n).length=n
 | 0=>rfl
 | n+1=>by simp [Ym,takeZ_len (n:=n)]
theorem zBX {l:List Nat} (hl:∀ x∈l,x<256):∀ {n:Nat},∀ x∈Ym l n,x<256
 | 0,x,h=>by simp [Ym] at h
 | n+1,x,h=>by
  rw [Ym] at h;rcases List.mem_append.1 h with h|h
  ·exact zBX hl x h
  ·simp at h;subst h;simpa using vF hl n
theorem zPC:∀ k:Fin 256,XX .i64 ((k.val:Nat):Int) 1=((k.val%2:Nat):Int):=by decide +kernel
theorem zOz:∀ k:Fin 256,XX .i64 ((k.val:Nat):Int) 2=((k.val / 2%2*2:Nat):Int):=by decide +kernel
theorem zPo {k:Nat} (h:k<256):XX .i64 (k:Int) 1=((k%2:Nat):Int):=zPC ⟨k,h⟩
theorem zPb {k:Nat} (h:k<256):XX .i64 (k:Int) 2=((k / 2%2*2:Nat):Int):=zOz ⟨k,h⟩
structure Pfx where
 hi:Nat
 lo:Nat
 v6:Bool
 n:Nat
def Pfx.cells (p:Pfx):List Value:=[u64 p.hi,u64 p.lo,.bool p.v6,.int .i64 (p.n:Int)]
def zFc (k:Nat):Bool:=k%2 != 0
def vP (v6:Bool) (k:Nat) (l:List Nat):List Nat:=Ym l k++List.replicate (width v6 / 8-k) 0
def xC (l:List Nat):Pfx×List Nat:=
 let kind:=l.headD 0
 let n:=l.tail.headD 0
 let v6:=zFc kind
 let k:=ZG v6 n
 let w:=vP v6 k (l.drop 2)
 let hi:=wrd w (min (width v6 / 8) 8)
 let lo:=wrd (w.drop 8) (width v6 / 8-8)
 (if kind / 2%2=1 then ⟨topN (min (yT n v6) 64) hi,topN (yT n v6-64) lo,v6,yT n v6⟩ else ⟨hi,lo,v6,n⟩,(l.drop 2).drop k)
theorem Qa {v6:Bool} {n:Nat}:ZG v6 n<=width v6 / 8:=by unfold ZG;omega
theorem zKI {l:List Nat} {i m:Nat} (h:i<m):(Ym l i++List.replicate (m-i) 0)[i]?=some 0:=by
 rw [List.getElem?_append_right (by rw [takeZ_len];omega),takeZ_len,Nat.sub_self,List.getElem?_replicate]
 simp;omega
theorem zIY {l:List Nat} {i m:Nat} (h:i<m):((Ym l i++List.replicate (m-i) 0).map u8e).set i [.int .u8 (((l.drop i).headD 0:Nat):Int)]=(Ym l (i+1)++List.replicate (m-(i+1)) 0).map u8e:=by
 have e:([.int .u8 (((l.drop i).headD 0:Nat):Int)]:List Value)=u8e ((l.drop i).headD 0):=rfl;rw [e,<-List.map_set];congr 1;rw [List.set_append,if_neg (by rw [takeZ_len];omega),takeZ_len,Nat.sub_self,Ym,List.append_assoc]
 congr 1;rw [show m-i=(m-(i+1))+1 by omega,List.replicate_succ]
 rfl
theorem zEx (rb:Nat) (T:TypeId) (l:List Nat) (hl:∀ x∈l,x<256) (base:Option Addr) (cap:Nat):Does PR E X 204 [.pointer (some ⟨rb,0,none⟩)] [box rb [.slice base l.length cap] T,rsl base cap 1 (l.map u8e)]
  (fun v t=>∃ base' cap',v=.agg (xC l).1.cells.toArray/\t=[box rb [.slice base' (xC l).2.length cap'] T,rsl base' cap' 1 ((xC l).2.map u8e)]):=by
 refine Does.of 48 inferInstance rfl (by decide) rfl ?_
 have hk:l.headD 0<256:=by simpa using vF hl 0
 have hn:l.tail.headD 0<256:=by simpa using vF hl 1
 refine zB ?_;refine alloc fun b2=>?_;refine zB ?_;refine call (ZM rb T l hl base cap) ?_;rintro _ _ ⟨b3,c3,rfl,rfl⟩;refine zB ?_;refine call (ZM rb T l.tail (fun x hx=>hl x (List.mem_of_mem_tail hx)) b3 c3) ?_;rintro _ _ ⟨b4,c4,rfl,rfl⟩;refine zB ?_;simp only [zPo hk];refine call (yO _) ?_;rintro _ _ ⟨rfl,rfl⟩;have hv:(!decide (((l.headD 0%2:Nat):Int)=0))=zFc (l.headD 0):=by
  unfold zFc;rcases Nat.mod_two_eq_zero_or_one (l.headD 0) with h|h <;> rw [h] <;> rfl
 simp only [hv];generalize hv6:zFc (l.headD 0)=v6;have hw:width v6=128∨width v6=32:=by cases v6 <;> simp [width]
 refine zB ?_;refine makeSlice fun b6=>?_;refine zB ?_;refine call (JE _ _ (by omega) (by omega)) ?_
 rintro _ _ ⟨rfl,rfl⟩;refine zB ?_;have em:((width v6:Int) / 8).toNat=width v6 / 8:=by omega
 have er:List.replicate (width v6 / 8) [Value.int IntKind.u8 0]=(Ym (l.drop 2) 0++List.replicate (width v6 / 8-0) 0).map u8e:=by simp [Ym,u8e]
 have ed:l.tail.tail=(l.drop 2).drop 0:=by simp [<-List.drop_one,List.drop_drop]
 simp only [em,er,ed,Int.toNat_natCast];generalize hkk:ZG v6 (l.tail.headD 0)=kk;have hkm:kk<=width v6 / 8:=by rw [<-hkk];exact Qa
 refine loop (ι:=Nat×Option Addr×Nat) (fun i=>kk-i.1) (fun i=>i.1<=kk) (fun i=>[(0,.pointer (some ⟨rb,0,none⟩)),(2,.pointer (some ⟨b2,0,none⟩)),(3,.int .i64 ((l.headD 0:Nat):Int)),(4,.int .i64 ((l.tail.headD 0:Nat):Int)),(6,.slice (some ⟨b6,0,none⟩) (width v6 / 8) (width v6 / 8)),(23,.int .i64 (kk:Int)),(24,.int .i64 (i.1:Int))])
  (fun i=>[osl (some ⟨b6,0,none⟩) (width v6 / 8) 5 1 ((Ym (l.drop 2) i.1++List.replicate (width v6 / 8-i.1) 0).map u8e),box rb [.slice i.2.1 ((l.drop 2).drop i.1).length i.2.2] T,rsl i.2.1 i.2.2 1 (((l.drop 2).drop i.1).map u8e),box b2 [u64 0,u64 0,.bool false,.int .i64 0] 52]) (0,b4,c4) (by simp) ?_
 rintro ⟨i,ba,ca⟩ hi ih;(try dsimp only at hi ih ⊢);have hl2:∀ x∈l.drop 2,x<256:=fun x hx=>hl x (List.mem_of_mem_drop hx);refine zB ?_;refine zH (fun h=>?_) (fun h=>?_)
 ·have hi':i<kk:=by have:=of_decide_eq_true h;omega
  refine zB ?_;refine call (ZM rb T ((l.drop 2).drop i) (fun x hx=>hl2 x (List.mem_of_mem_drop hx)) ba ca) ?_;rintro _ _ ⟨b7,c7,rfl,rfl⟩;have hb:=vF hl2 i;have hx:=zKI (l:=l.drop 2) (i:=i) (m:=width v6 / 8) (by omega)
  refine zB ?_;simp only [Int.toNat_natCast,zIY (l:=l.drop 2) (i:=i) (m:=width v6 / 8) (by omega),show ((l.drop 2).drop i).tail=(l.drop 2).drop (i+1) from List.tail_drop]
  exact next (ih (i+1,b7,c7) (by dsimp only;omega) (by dsimp only;omega))
 ·have hi':i=kk:=by have:=of_decide_eq_false h;omega
  subst hi';refine zB ?_;have hwl:∀ x∈vP v6 i (l.drop 2),x<256:=fun x hx=>by
   rcases List.mem_append.1 hx with hx|hx
   ·exact zBX hl2 x hx
   ·rw [List.eq_of_mem_replicate hx];decide
  refine call (zKO (vP v6 i (l.drop 2)) hwl v6 (by simp [vP];omega) _ _ _) ?_
  rintro _ _ ⟨rfl,rfl⟩;refine zB ?_;refine alloc fun b8=>?_;refine zB ?_;simp only [zPb hk];have hrd:xC l=(if l.headD 0 / 2%2=1 then ⟨topN (min (yT (l.tail.headD 0:Nat) v6) 64) (wrd (vP v6 i (l.drop 2)) (min (width v6 / 8) 8)),topN (yT (l.tail.headD 0:Nat) v6-64) (wrd ((vP v6 i (l.drop 2)).drop 8) (width v6 / 8-8)),v6,yT (l.tail.headD 0:Nat) v6⟩ else ⟨wrd (vP v6 i (l.drop 2)) (min (width v6 / 8) 8),wrd ((vP v6 i (l.drop 2)).drop 8) (width v6 / 8-8),v6,l.tail.headD 0⟩,(l.drop 2).drop i):=by
   unfold xC;simp only [hv6,hkk]
  have hw1:wrd (vP v6 i (l.drop 2)) (min (width v6 / 8) 8)<18446744073709551616:=xR hwl (by omega)
  have hw2:wrd ((vP v6 i (l.drop 2)).drop 8) (width v6 / 8-8)<18446744073709551616:=xR (fun x hx=>hwl x (List.mem_of_mem_drop hx)) (by omega)
  refine zH (fun h2=>?_) (fun h2=>?_)
  ·have h3:¬ (((l.headD 0 / 2%2*2:Nat):Int)=0):=by simpa only [Bool.not_eq_true',decide_eq_false_iff_not] using h2
   have hc:l.headD 0 / 2%2=1:=by omega
   rw [if_pos hc] at hrd;simp only [hrd];refine zB ?_;refine call (Ww _ _ _ _ hw1 hw2) ?_;rintro _ _ ⟨rfl,rfl⟩;refine zB ?_;refine ret ?_;exact ends ⟨ba,ca,rfl,rfl⟩
  ·have h3:((l.headD 0 / 2%2*2:Nat):Int)=0:=by simpa only [Bool.not_eq_false',decide_eq_true_eq] using h2
   have hc:¬ l.headD 0 / 2%2=1:=by omega
   rw [if_neg hc] at hrd;simp only [hrd];refine zB ?_;refine ret ?_;exact ends ⟨ba,ca,rfl,rfl⟩
end Go.Proofs.YtjcbjclhagobiaaGreat
end
section
namespace Go.Proofs.YtjcbjclhagobiaaGreat
open Go Go.KL Go.KM
variable {E:Env} {X:Xs}
theorem Xe (rb sb:Nat) (T T2:TypeId) (l:List Nat) (hl:∀ x∈l,x<256) (base:Option Addr) (cap:Nat) (c0 c1 c2 c3 c4 c5 c6 c7:Value):Does PR E X 131 [.pointer (some ⟨rb,0,none⟩),.pointer (some ⟨sb,0,none⟩)] [box rb [.slice base l.length cap] T,rsl base cap 1 (l.map u8e),box sb [c0,c1,c2,c3,c4,c5,c6,c7] T2]
  (fun v t=>∃ base' cap',t=[box rb [.slice base' (xC l).2.length cap'] T,rsl base' cap' 1 ((xC l).2.map u8e),box sb (c0::(xC l).1.cells++[c5,c6,c7]) T2]):=by
 refine Does.of 9 inferInstance rfl (by decide) rfl ?_
 refine zB ?_;refine call (zEx rb T l hl base cap) ?_;rintro _ _ ⟨b3,c3',rfl,rfl⟩;refine zB ?_;refine fall ?_;exact ends ⟨b3,c3',rfl⟩
theorem zM2 {q c r:Nat} (h:c<256) (g:q<r):q*256+c<r*256:=by omega
theorem QV {l:List Nat} (hl:∀ x∈l,x<256):∀ {k:Nat},k<8->QH l (k+1)=QH l k*256+(l.drop k).headD 0/\QH l (k+1)<256^(k+1)
 | 0,_=>by
  have hb:=vF hl 0;simp [QH] at hb ⊢;exact hb
 | k+1,h=>by
  obtain ⟨_,h2⟩:=QV hl (k:=k) (by omega)
  have hb:=vF hl (k+1);have h3:QH l (k+1)*256<18446744073709551616:=by
   have:256^(k+1)<=256^7:=Nat.pow_le_pow_right (by omega) (by omega)
   have e:(256:Nat)^7=72057594037927936:=by decide
   omega
  have e1:QH l (k+1+1)=QH l (k+1)*256+(l.drop (k+1)).headD 0:=by
   rw [QH,Nat.mod_eq_of_lt h3];have:=(Nat.shiftLeft_add_eq_or_of_lt (i:=8) hb (QH l (k+1))).symm
   rw [Nat.shiftLeft_eq] at this;exact this
  refine ⟨e1,?_⟩;rw [e1];exact zM2 hb h2
theorem zEL (rb sb:Nat) (T T2:TypeId) (l:List Nat) (hl:∀ x∈l,x<256) (base:Option Addr) (cap:Nat) (c0 c1 c2 c3 c4 c5 c6 c7:Value):Does PR E X 130 [.pointer (some ⟨rb,0,none⟩),.pointer (some ⟨sb,0,none⟩)] [box rb [.slice base l.length cap] T,rsl base cap 1 (l.map u8e),box sb [c0,c1,c2,c3,c4,c5,c6,c7] T2]
  (fun v t=>∃ base' cap',t=[box rb [.slice base' ((xC l).2.drop 2).length cap'] T,rsl base' cap' 1 (((xC l).2.drop 2).map u8e),box sb (c0::(xC l).1.cells++[.int .i64 (QH (xC l).2 2:Nat),c6,c7]) T2]):=by
 refine Does.of 13 inferInstance rfl (by decide) rfl ?_
 have hl2:∀ x∈(xC l).2,x<256:=fun x hx=>hl x (List.mem_of_mem_drop (List.mem_of_mem_drop hx));have hN:QH (xC l).2 2<65536:=(QV hl2 (k:=1) (by omega)).2
 refine zB ?_;refine call (Xe rb sb T T2 l hl base cap c0 c1 c2 c3 c4 c5 c6 c7) ?_;rintro _ _ ⟨b3,c3',rfl⟩;refine zB ?_;refine call (JF rb T (xC l).2 hl2 b3 c3' 2 (by omega)) ?_
 rintro _ _ ⟨b4,c4',rfl,rfl⟩;refine zB ?_;refine fall ?_;exact ends ⟨b4,c4',rfl⟩
theorem zC7 (rb sb:Nat) (T T2:TypeId) (l:List Nat) (hl:∀ x∈l,x<256) (base:Option Addr) (cap:Nat) (c0 c1 c2 c3 c4 c5 c6 c7:Value):Does PR E X 132 [.pointer (some ⟨rb,0,none⟩),.pointer (some ⟨sb,0,none⟩)] [box rb [.slice base l.length cap] T,rsl base cap 1 (l.map u8e),box sb [c0,c1,c2,c3,c4,c5,c6,c7] T2]
  (fun v t=>∃ base' cap',t=[box rb [.slice base' l.tail.length cap'] T,rsl base' cap' 1 (l.tail.map u8e),box sb [c0,c1,c2,c3,c4,c5,.int .i64 (l.headD 0:Nat),c7] T2]):=by
 refine Does.of 9 inferInstance rfl (by decide) rfl ?_
 refine zB ?_;refine call (ZM rb T l hl base cap) ?_;rintro _ _ ⟨b3,c3',rfl,rfl⟩;refine zB ?_;refine fall ?_;exact ends ⟨b3,c3',rfl⟩
theorem zGy (rb sb:Nat) (T T2:TypeId) (l:List Nat) (hl:∀ x∈l,x<256) (base:Option Addr) (cap:Nat) (c0 c1 c2 c3 c4 c5 c6 c7:Value):Does PR E X 133 [.pointer (some ⟨rb,0,none⟩),.pointer (some ⟨sb,0,none⟩)] [box rb [.slice base l.length cap] T,rsl base cap 1 (l.map u8e),box sb [c0,c1,c2,c3,c4,c5,c6,c7] T2]
  (fun v t=>∃ base' cap',t=[box rb [.slice base' (xC l).2.tail.length cap'] T,rsl base' cap' 1 ((xC l).2.tail.map u8e),box sb (c0::(xC l).1.cells++[c5,.int .i64 ((xC l).2.headD 0:Nat),c7]) T2]):=by
 refine Does.of 10 inferInstance rfl (by decide) rfl ?_
 have hl2:∀ x∈(xC l).2,x<256:=fun x hx=>hl x (List.mem_of_mem_drop (List.mem_of_mem_drop hx));refine zB ?_;refine call (Xe rb sb T T2 l hl base cap c0 c1 c2 c3 c4 c5 c6 c7) ?_;rintro _ _ ⟨b3,c3',rfl⟩;refine zB ?_;refine call (zC7 rb sb T T2 (xC l).2 hl2 b3 c3' _ _ _ _ _ _ _ _) ?_;rintro _ _ ⟨b4,c4',rfl⟩;refine zB ?_;refine fall ?_;exact ends ⟨b4,c4',rfl⟩
theorem zCt (v1 v2:Value):Does PR E X 128 [v1,v2] [] (fun v t=>t=[]):=by
 refine Does.of 4 inferInstance rfl (by decide) rfl ?_
 refine zB ?_;refine fall ?_;exact ends rfl
theorem zDf (rb sb:Nat) (T T2:TypeId) (l:List Nat) (hl:∀ x∈l,x<256) (base:Option Addr) (cap:Nat) (c0 c1 c2 c3 c4 c5 c6 c7:Value):Does PR E X 129 [.pointer (some ⟨rb,0,none⟩),.pointer (some ⟨sb,0,none⟩)] [box rb [.slice base l.length cap] T,rsl base cap 1 (l.map u8e),box sb [c0,c1,c2,c3,c4,c5,c6,c7] T2]
  (fun v t=>∃ base' cap' pb pc,t=[box rb [.slice base' (l.tail.drop (l.headD 0)).length cap'] T,rsl base' cap' 1 ((l.tail.drop (l.headD 0)).map u8e),box sb [c0,c1,c2,c3,c4,c5,c6,.slice pb (l.tail.take (l.headD 0)).length pc] T2,rsl pb pc 1 ((l.tail.take (l.headD 0)).map u8e)]):=by
 refine Does.of 34 inferInstance rfl (by decide) rfl ?_
 have hb:l.headD 0<256:=by simpa using vF hl 0
 refine zB ?_;refine call (ZM rb T l hl base cap) ?_;rintro _ _ ⟨b3,c3',rfl,rfl⟩;have hl1:∀ x∈l.tail,x<256:=fun x hx=>hl x (List.mem_of_mem_tail hx);generalize l.tail=l1 at hl1;generalize l.headD 0=m at hb;refine zB ?_;refine zO3 b3 fun hcap=>?_;simp only [List.length_map] at hcap;have hm:min (m:Int) (l1.length:Int)=((min m l1.length:Nat):Int):=by omega
 simp only [hm];refine zB ?_;simp only [Int.toNat_natCast,Nat.sub_zero,zHn];have htk:((l1.map u8e).drop 0).take m=(l1.take m).map u8e:=by simp
 refine cinto (Jq b3 0 m (es':=(l1.take m).map u8e) (by omega) htk) ?_
 simp only [Nat.sub_zero,zHn];refine call (ZP (l1.take m) b3 c3' (min m l1.length) (by simp) (by simp;omega)) ?_
 rintro _ _ ⟨pb,pc,rfl,rfl⟩;refine zB ?_;have hlo:((l1.map u8e).drop (min m l1.length)).take (l1.length-min m l1.length)=(l1.drop m).map u8e:=by
  rw [<-List.map_drop,<-List.map_take];congr 1;rcases Nat.le_total m l1.length with h|h
  ·rw [Nat.min_eq_left h];exact List.take_of_length_le (by simp)
  ·rw [Nat.min_eq_right h];simp [List.drop_eq_nil_of_le h]
 refine into (Jq b3 (cap:=c3') (sz:=1) (es:=l1.map u8e) (min m l1.length) (l1.length-min m l1.length) (by omega) hlo) ?_
 refine xE pb ?_;refine fall ?_;have e1:l1.length-min m l1.length=(l1.drop m).length:=by simp;omega
 rw [Int.toNat_natCast,e1];exact ends ⟨_,_,pb,pc,rfl⟩
end Go.Proofs.YtjcbjclhagobiaaGreat
end
