/-
  PlBase: the types of the program's data.
-/
import Derived.Test.YtpkjlefincabiaaDoorSimAux
namespace Go.Sim
@[reducible] def recTy : Ty := .pair (.int .i64) (.pair (.int .i64) (.pair .str (.pair .str .bool)))
@[reducible] def segTy : Ty := .pair (.int .i64) (.pair (.int .i64) (.pair (.int .i64) (.pair (.int .i64) (.pair (.sl recTy) (.pair .bool (.pair .bool (.pair .bool (.pair (.int .i64) (.int .u32)))))))))
@[reducible] def confTy : Ty := .pair (.int .i64) (.pair (.int .i64) (.pair (.int .i64) (.int .i64)))
abbrev Rec := Int × Int × List UInt8 × List UInt8 × Bool
abbrev Seg := Int × Int × Int × Int × List Rec × Bool × Bool × Bool × Int × Int
abbrev Cnf := Int × Int × Int × Int
end Go.Sim
