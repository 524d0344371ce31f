/- A part of the proof of the last text of this claim, without conditions. -/
import Derived.Test.YtbafhpblecdbbaaGreatDoorG
import Derived.Test.YtbafhpblecdbbaaGreatDoorProg
import Derived.KernelRfl
import Derived.Lib.ItoaNum
import Derived.Shelf.Small.Bits
import Derived.Shelf.Strconv.Itoa0
import Derived.Shelf.Strconv.Itoa1
import Derived.Shelf.LaysM
import Derived.Shelf.Strconv.Itoa2
import Derived.Shelf.Strconv.Itoa3
import Derived.Lib.ItoaLen
set_option maxRecDepth 4000
set_option linter.all false
namespace Go.Proofs
open Go.Mt
open Tryz
instance:bh prog 3 1:=⟨by kernel_rfl⟩
instance:cj prog 3:=⟨by kernel_rfl⟩
instance:jK prog 3 .i64:=⟨by kernel_rfl⟩
instance:bh prog 4 1:=⟨by kernel_rfl⟩
instance:cj prog 4:=⟨by kernel_rfl⟩
instance:bh prog 5 1:=⟨by kernel_rfl⟩
instance:cj prog 5:=⟨by kernel_rfl⟩
instance:bh prog 9 1:=⟨by kernel_rfl⟩
instance:cj prog 9:=⟨by kernel_rfl⟩
instance:gp prog 9 16:=⟨by kernel_rfl⟩
instance:dt prog 9 (.str ⟨#[]⟩):=⟨by kernel_rfl⟩
instance:bh prog 21 1:=⟨by kernel_rfl⟩
instance:cj prog 21:=⟨by kernel_rfl⟩
instance:jK prog 21 .i32:=⟨by kernel_rfl⟩
instance:dt prog 21 (.int .i32 0):=⟨by kernel_rfl⟩
instance:bh prog 24 1:=⟨by kernel_rfl⟩
instance:cj prog 24:=⟨by kernel_rfl⟩
instance:aL prog 24 101:=⟨by kernel_rfl⟩
instance:dt prog 24 (.sl []):=⟨by kernel_rfl⟩
instance:bh prog 29 1:=⟨by kernel_rfl⟩
instance:cj prog 29:=⟨by kernel_rfl⟩
instance:aL prog 29 110:=⟨by kernel_rfl⟩
instance:bh prog 31 2:=⟨by kernel_rfl⟩
instance:cL prog 31 2:=⟨by kernel_rfl,by kernel_rfl⟩
instance:ib prog 31 [.d (.sl []),.d (.sl [])]:=⟨.agg [.sl [],.sl []],bA (by kernel_rfl),rfl⟩
instance:aI prog 31 0 0:=aA (by kernel_rfl)
instance:aI prog 31 1 1:=aA (by kernel_rfl)
instance:cp prog 31 [(0,1),(1,1)] [.sl [],.sl []]:=⟨by kernel_rfl,by kernel_rfl⟩
instance:bh prog 33 1:=⟨by kernel_rfl⟩
instance:cj prog 33:=⟨by kernel_rfl⟩
instance:aL prog 33 55:=⟨by kernel_rfl⟩
instance:dt prog 33 (.sl []):=⟨by kernel_rfl⟩
instance:bh prog 37 1:=⟨by kernel_rfl⟩
instance:cj prog 37:=⟨by kernel_rfl⟩
instance:aL prog 37 9:=⟨by kernel_rfl⟩
instance:bh prog 38 1:=⟨by kernel_rfl⟩
instance:cj prog 38:=⟨by kernel_rfl⟩
instance:aL prog 38 42:=⟨by kernel_rfl⟩
instance:cL prog 40 2:=⟨by kernel_rfl,by kernel_rfl⟩
instance:cp prog 40 [(0,1),(1,1)] [.int .i64 0,.int .i64 0]:=⟨by kernel_rfl,by kernel_rfl⟩
instance:bh prog 42 8:=⟨by kernel_rfl⟩
instance:cL prog 42 8:=⟨by kernel_rfl,by kernel_rfl⟩
instance:gp prog 42 88:=⟨by kernel_rfl⟩
instance:dt prog 42 (.agg [.int .u8 0,.int .u8 0,.int .i32 0,.str ⟨#[]⟩,.sl [],.sl [],.int .i64 0,.int .i64 0]):=⟨by kernel_rfl⟩
instance:ib prog 42 [.d (.int .u8 0),.d (.int .u8 0),.d (.int .i32 0),.d (.str ⟨#[]⟩),.d (.sl []),.d (.sl []),.d (.int .i64 0),.d (.int .i64 0)]:=⟨.agg [.int .u8 0,.int .u8 0,.int .i32 0,.str ⟨#[]⟩,.sl [],.sl [],.int .i64 0,.int .i64 0],bA (by kernel_rfl),rfl⟩
instance:aI prog 42 0 0:=aA (by kernel_rfl)
instance:aI prog 42 1 1:=aA (by kernel_rfl)
instance:aI prog 42 3 3:=aA (by kernel_rfl)
instance:aI prog 42 4 4:=aA (by kernel_rfl)
instance:aI prog 42 5 5:=aA (by kernel_rfl)
instance:aI prog 42 6 6:=aA (by kernel_rfl)
instance:cp prog 42 [(0,1),(1,1),(2,1),(3,1),(4,1),(5,1),(6,2)] [.int .u8 0,.int .u8 0,.int .i32 0,.str ⟨#[]⟩,.sl [],.sl [],.int .i64 0,.int .i64 0]:=⟨by kernel_rfl,by kernel_rfl⟩
instance:bh prog 43 1:=⟨by kernel_rfl⟩
instance:cj prog 43:=⟨by kernel_rfl⟩
instance:aL prog 43 67:=⟨by kernel_rfl⟩
instance:dt prog 43 (.sl []):=⟨by kernel_rfl⟩
instance:bh prog 53 2:=⟨by kernel_rfl⟩
instance:cL prog 53 2:=⟨by kernel_rfl,by kernel_rfl⟩
instance:gp prog 53 24:=⟨by kernel_rfl⟩
instance:dt prog 53 (.agg [.int .u8 0,.str ⟨#[]⟩]):=⟨by kernel_rfl⟩
instance:ib prog 53 [.d (.int .u8 0),.d (.str ⟨#[]⟩)]:=⟨.agg [.int .u8 0,.str ⟨#[]⟩],bA (by kernel_rfl),rfl⟩
instance:aI prog 53 0 0:=aA (by kernel_rfl)
instance:cp prog 53 [(0,1),(1,1)] [.int .u8 0,.str ⟨#[]⟩]:=⟨by kernel_rfl,by kernel_rfl⟩
instance:bh prog 55 15:=⟨by kernel_rfl⟩
instance:cL prog 55 15:=⟨by kernel_rfl,by kernel_rfl⟩
instance:gp prog 55 176:=⟨by kernel_rfl⟩
instance:dt prog 55 (.agg [.str ⟨#[]⟩,.int .u8 0,.str ⟨#[]⟩,.sl [],.bool false,.int .u8 0,.int .u8 0,.int .i32 0,.str ⟨#[]⟩,.sl [],.sl [],.int .i64 0,.int .i64 0,.int .i64 0,.int .i64 0]):=⟨by kernel_rfl⟩
instance:ib prog 55 [.d (.str ⟨#[]⟩),.d (.int .u8 0),.d (.str ⟨#[]⟩),.d (.sl []),.d (.bool false),.d (.int .u8 0),.d (.int .u8 0),.d (.int .i32 0),.d (.str ⟨#[]⟩),.d (.sl []),.d (.sl []),.d (.int .i64 0),.d (.int .i64 0),.d (.int .i64 0),.d (.int .i64 0)]:=⟨.agg [.str ⟨#[]⟩,.int .u8 0,.str ⟨#[]⟩,.sl [],.bool false,.int .u8 0,.int .u8 0,.int .i32 0,.str ⟨#[]⟩,.sl [],.sl [],.int .i64 0,.int .i64 0,.int .i64 0,.int .i64 0],bA (by kernel_rfl),rfl⟩
instance:aI prog 55 0 0:=aA (by kernel_rfl)
instance:aI prog 55 1 1:=aA (by kernel_rfl)
instance:aI prog 55 2 3:=aA (by kernel_rfl)
instance:aI prog 55 3 4:=aA (by kernel_rfl)
instance:aI prog 55 4 5:=aA (by kernel_rfl)
instance:aI prog 55 5 13:=aA (by kernel_rfl)
instance:cp prog 55 [(0,1),(1,2),(3,1),(4,1),(5,8),(13,2)] [.str ⟨#[]⟩,.int .u8 0,.str ⟨#[]⟩,.sl [],.bool false,.int .u8 0,.int .u8 0,.int .i32 0,.str ⟨#[]⟩,.sl [],.sl [],.int .i64 0,.int .i64 0,.int .i64 0,.int .i64 0]:=⟨by kernel_rfl,by kernel_rfl⟩
instance:bh prog 67 2:=⟨by kernel_rfl⟩
instance:cL prog 67 2:=⟨by kernel_rfl,by kernel_rfl⟩
instance:gp prog 67 32:=⟨by kernel_rfl⟩
instance:dt prog 67 (.agg [.str ⟨#[]⟩,.str ⟨#[]⟩]):=⟨by kernel_rfl⟩
instance:ib prog 67 [.d (.str ⟨#[]⟩),.d (.str ⟨#[]⟩)]:=⟨.agg [.str ⟨#[]⟩,.str ⟨#[]⟩],bA (by kernel_rfl),rfl⟩
instance:aI prog 67 0 0:=aA (by kernel_rfl)
instance:aI prog 67 1 1:=aA (by kernel_rfl)
instance:cp prog 67 [(0,1),(1,1)] [.str ⟨#[]⟩,.str ⟨#[]⟩]:=⟨by kernel_rfl,by kernel_rfl⟩
instance:aL prog 68 4:=⟨by kernel_rfl⟩
instance:aL prog 76 21:=⟨by kernel_rfl⟩
instance:bh prog 101 4:=⟨by kernel_rfl⟩
instance:cL prog 101 4:=⟨by kernel_rfl,by kernel_rfl⟩
instance:gp prog 101 56:=⟨by kernel_rfl⟩
instance:dt prog 101 (.agg [.str ⟨#[]⟩,.sl [],.int .i64 0,.int .i64 0]):=⟨by kernel_rfl⟩
instance:ib prog 101 [.d (.str ⟨#[]⟩),.d (.sl []),.d (.int .i64 0),.d (.int .i64 0)]:=⟨.agg [.str ⟨#[]⟩,.sl [],.int .i64 0,.int .i64 0],bA (by kernel_rfl),rfl⟩
instance:aI prog 101 0 0:=aA (by kernel_rfl)
instance:aI prog 101 1 1:=aA (by kernel_rfl)
instance:cp prog 101 [(0,1),(1,1),(2,2)] [.str ⟨#[]⟩,.sl [],.int .i64 0,.int .i64 0]:=⟨by kernel_rfl,by kernel_rfl⟩
instance:bh prog 106 1:=⟨by kernel_rfl⟩
instance:cj prog 106:=⟨by kernel_rfl⟩
instance:aL prog 106 149:=⟨by kernel_rfl⟩
instance:bh prog 108 2:=⟨by kernel_rfl⟩
instance:cL prog 108 2:=⟨by kernel_rfl,by kernel_rfl⟩
instance:ib prog 108 [.d (.sl []),.d (.sl [])]:=⟨.agg [.sl [],.sl []],bA (by kernel_rfl),rfl⟩
instance:aI prog 108 0 0:=aA (by kernel_rfl)
instance:aI prog 108 1 1:=aA (by kernel_rfl)
instance:cp prog 108 [(0,1),(1,1)] [.sl [],.sl []]:=⟨by kernel_rfl,by kernel_rfl⟩
instance:bh prog 110 7:=⟨by kernel_rfl⟩
instance:cL prog 110 7:=⟨by kernel_rfl,by kernel_rfl⟩
instance:gp prog 110 128:=⟨by kernel_rfl⟩
instance:dt prog 110 (.agg [.str ⟨#[]⟩,.sl [],.sl [],.sl [],.sl [],.int .i64 0,.int .i64 0]):=⟨by kernel_rfl⟩
instance:ib prog 110 [.d (.str ⟨#[]⟩),.d (.sl []),.d (.sl []),.d (.sl []),.d (.sl []),.d (.int .i64 0),.d (.int .i64 0)]:=⟨.agg [.str ⟨#[]⟩,.sl [],.sl [],.sl [],.sl [],.int .i64 0,.int .i64 0],bA (by kernel_rfl),rfl⟩
instance:aI prog 110 0 0:=aA (by kernel_rfl)
instance:aI prog 110 1 1:=aA (by kernel_rfl)
instance:aI prog 110 2 2:=aA (by kernel_rfl)
instance:aI prog 110 3 3:=aA (by kernel_rfl)
instance:aI prog 110 4 5:=aA (by kernel_rfl)
instance:cp prog 110 [(0,1),(1,1),(2,1),(3,2),(5,2)] [.str ⟨#[]⟩,.sl [],.sl [],.sl [],.sl [],.int .i64 0,.int .i64 0]:=⟨by kernel_rfl,by kernel_rfl⟩
instance:bh prog 147 1:=⟨by kernel_rfl⟩
instance:cj prog 147:=⟨by kernel_rfl⟩
instance:aL prog 147 152:=⟨by kernel_rfl⟩
instance:bh prog 149 16:=⟨by kernel_rfl⟩
instance:cL prog 149 16:=⟨by kernel_rfl,by kernel_rfl⟩
instance:gp prog 149 208:=⟨by kernel_rfl⟩
instance:dt prog 149 (.agg [.int .u8 0,.sl [],.str ⟨#[]⟩,.sl [],.bool false,.int .u8 0,.int .u8 0,.int .i32 0,.str ⟨#[]⟩,.sl [],.sl [],.int .i64 0,.int .i64 0,.sl [],.int .i64 0,.int .i64 0]):=⟨by kernel_rfl⟩
instance:ib prog 149 [.d (.int .u8 0),.d (.sl []),.d (.str ⟨#[]⟩),.d (.sl []),.d (.bool false),.d (.int .u8 0),.d (.int .u8 0),.d (.int .i32 0),.d (.str ⟨#[]⟩),.d (.sl []),.d (.sl []),.d (.int .i64 0),.d (.int .i64 0),.d (.sl []),.d (.int .i64 0),.d (.int .i64 0)]:=⟨.agg [.int .u8 0,.sl [],.str ⟨#[]⟩,.sl [],.bool false,.int .u8 0,.int .u8 0,.int .i32 0,.str ⟨#[]⟩,.sl [],.sl [],.int .i64 0,.int .i64 0,.sl [],.int .i64 0,.int .i64 0],bA (by kernel_rfl),rfl⟩
instance:aI prog 149 0 0:=aA (by kernel_rfl)
instance:aI prog 149 1 1:=aA (by kernel_rfl)
instance:aI prog 149 2 2:=aA (by kernel_rfl)
instance:aI prog 149 3 3:=aA (by kernel_rfl)
instance:aI prog 149 4 4:=aA (by kernel_rfl)
instance:aI prog 149 5 5:=aA (by kernel_rfl)
instance:aI prog 149 6 13:=aA (by kernel_rfl)
instance:aI prog 149 7 14:=aA (by kernel_rfl)
instance:cp prog 149 [(0,1),(1,1),(2,1),(3,1),(4,1),(5,8),(13,1),(14,2)] [.int .u8 0,.sl [],.str ⟨#[]⟩,.sl [],.bool false,.int .u8 0,.int .u8 0,.int .i32 0,.str ⟨#[]⟩,.sl [],.sl [],.int .i64 0,.int .i64 0,.sl [],.int .i64 0,.int .i64 0]:=⟨by kernel_rfl,by kernel_rfl⟩
instance:cj prog 150:=⟨by kernel_rfl⟩
instance:aL prog 150 324:=⟨by kernel_rfl⟩
instance:bh prog 152 7:=⟨by kernel_rfl⟩
instance:cL prog 152 7:=⟨by kernel_rfl,by kernel_rfl⟩
instance:gp prog 152 128:=⟨by kernel_rfl⟩
instance:dt prog 152 (.agg [.str ⟨#[]⟩,.sl [],.sl [],.sl [],.sl [],.int .i64 0,.int .i64 0]):=⟨by kernel_rfl⟩
instance:ib prog 152 [.d (.str ⟨#[]⟩),.d (.sl []),.d (.sl []),.d (.sl []),.d (.sl []),.d (.int .i64 0),.d (.int .i64 0)]:=⟨.agg [.str ⟨#[]⟩,.sl [],.sl [],.sl [],.sl [],.int .i64 0,.int .i64 0],bA (by kernel_rfl),rfl⟩
instance:aI prog 152 0 0:=aA (by kernel_rfl)
instance:aI prog 152 1 1:=aA (by kernel_rfl)
instance:aI prog 152 2 3:=aA (by kernel_rfl)
instance:aI prog 152 3 4:=aA (by kernel_rfl)
instance:aI prog 152 4 5:=aA (by kernel_rfl)
instance:cp prog 152 [(0,1),(1,2),(3,1),(4,1),(5,2)] [.str ⟨#[]⟩,.sl [],.sl [],.sl [],.sl [],.int .i64 0,.int .i64 0]:=⟨by kernel_rfl,by kernel_rfl⟩
instance:aI prog 188 0 0:=aA (by kernel_rfl)
instance:aI prog 188 1 1:=aA (by kernel_rfl)
instance:cp prog 188 [(0,1),(1,1)] [.sl [],.int .i64 0]:=⟨by kernel_rfl,by kernel_rfl⟩
instance:aL prog 196 33:=⟨by kernel_rfl⟩
instance:aI prog 256 0 0:=aA (by kernel_rfl)
instance:aI prog 256 1 2:=aA (by kernel_rfl)
instance:aI prog 256 2 3:=aA (by kernel_rfl)
instance:cp prog 256 [(0,2),(2,1),(3,1)] [.sl [],.sl [],.sl [],.int .i64 0]:=⟨by kernel_rfl,by kernel_rfl⟩
instance:cj prog 257:=⟨by kernel_rfl⟩
instance:gz prog 257 261:=⟨⟨9,by kernel_rfl,by kernel_rfl⟩⟩
instance:bh prog 259 3:=⟨by kernel_rfl⟩
instance:cL prog 259 3:=⟨by kernel_rfl,by kernel_rfl⟩
instance:ib prog 259 [.d (.dQ),.d (.dQ),.d (.sl [])]:=⟨.agg [.dQ,.dQ,.sl []],bA (by kernel_rfl),rfl⟩
instance:aI prog 259 0 0:=aA (by kernel_rfl)
instance:aI prog 259 1 1:=aA (by kernel_rfl)
instance:aI prog 259 2 2:=aA (by kernel_rfl)
instance:cp prog 259 [(0,1),(1,1),(2,1)] [.dQ,.dQ,.sl []]:=⟨by kernel_rfl,by kernel_rfl⟩
instance:bh prog 261 4:=⟨by kernel_rfl⟩
instance:cL prog 261 4:=⟨by kernel_rfl,by kernel_rfl⟩
instance:dt prog 261 (.agg [.str ⟨#[]⟩,.int .i64 0,.int .u8 0,.str ⟨#[]⟩]):=⟨by kernel_rfl⟩
instance:ib prog 261 [.d (.str ⟨#[]⟩),.d (.int .i64 0),.d (.int .u8 0),.d (.str ⟨#[]⟩)]:=⟨.agg [.str ⟨#[]⟩,.int .i64 0,.int .u8 0,.str ⟨#[]⟩],bA (by kernel_rfl),rfl⟩
instance:aI prog 261 0 0:=aA (by kernel_rfl)
instance:aI prog 261 1 1:=aA (by kernel_rfl)
instance:aI prog 261 2 2:=aA (by kernel_rfl)
instance:cp prog 261 [(0,1),(1,1),(2,2)] [.str ⟨#[]⟩,.int .i64 0,.int .u8 0,.str ⟨#[]⟩]:=⟨by kernel_rfl,by kernel_rfl⟩
instance:aL prog 266 24:=⟨by kernel_rfl⟩
instance:bh prog 310 7:=⟨by kernel_rfl⟩
instance:cL prog 310 7:=⟨by kernel_rfl,by kernel_rfl⟩
instance:ib prog 310 [.d (.str ⟨#[]⟩),.d (.str ⟨#[]⟩),.d (.str ⟨#[]⟩),.d (.str ⟨#[]⟩),.d (.str ⟨#[]⟩),.d (.str ⟨#[]⟩),.d (.str ⟨#[]⟩)]:=⟨.agg [.str ⟨#[]⟩,.str ⟨#[]⟩,.str ⟨#[]⟩,.str ⟨#[]⟩,.str ⟨#[]⟩,.str ⟨#[]⟩,.str ⟨#[]⟩],bA (by kernel_rfl),rfl⟩
instance:aI prog 310 0 0:=aA (by kernel_rfl)
instance:aI prog 310 1 1:=aA (by kernel_rfl)
instance:aI prog 310 2 2:=aA (by kernel_rfl)
instance:aI prog 310 3 3:=aA (by kernel_rfl)
instance:aI prog 310 4 4:=aA (by kernel_rfl)
instance:aI prog 310 5 5:=aA (by kernel_rfl)
instance:aI prog 310 6 6:=aA (by kernel_rfl)
instance:cp prog 310 [(0,1),(1,1),(2,1),(3,1),(4,1),(5,1),(6,1)] [.str ⟨#[]⟩,.str ⟨#[]⟩,.str ⟨#[]⟩,.str ⟨#[]⟩,.str ⟨#[]⟩,.str ⟨#[]⟩,.str ⟨#[]⟩]:=⟨by kernel_rfl,by kernel_rfl⟩
instance:dt prog 311 (.agg [.str ⟨#[]⟩,.str ⟨#[]⟩,.str ⟨#[]⟩]):=⟨by kernel_rfl⟩
instance:bh prog 324 12:=⟨by kernel_rfl⟩
instance:cL prog 324 12:=⟨by kernel_rfl,by kernel_rfl⟩
instance:ib prog 324 [.d (.int .u8 0),.d (.int .u8 0),.d (.int .i32 0),.d (.str ⟨#[]⟩),.d (.sl []),.d (.sl []),.d (.int .i64 0),.d (.int .i64 0),.d (.str ⟨#[]⟩),.d (.bool false),.d (.int .i64 0),.d (.int .i64 0)]:=⟨.agg [.int .u8 0,.int .u8 0,.int .i32 0,.str ⟨#[]⟩,.sl [],.sl [],.int .i64 0,.int .i64 0,.str ⟨#[]⟩,.bool false,.int .i64 0,.int .i64 0],bA (by kernel_rfl),rfl⟩
instance:aI prog 324 0 0:=aA (by kernel_rfl)
instance:aI prog 324 1 8:=aA (by kernel_rfl)
instance:aI prog 324 2 9:=aA (by kernel_rfl)
instance:aI prog 324 3 10:=aA (by kernel_rfl)
instance:aL prog 343 43:=⟨by kernel_rfl⟩
instance:bh prog 382 1:=⟨by kernel_rfl⟩
instance:ib prog 382 [.d (.jA)]:=⟨.jA,bA (by kernel_rfl),rfl⟩
instance:aI prog 392 0 0:=aA (by kernel_rfl)
instance:cp prog 392 [(0,2)] [.sl [],.sl []]:=⟨by kernel_rfl,by kernel_rfl⟩
instance:aL prog 396 53:=⟨by kernel_rfl⟩
instance:bp prog 37:=⟨λargs w=>call37 args w⟩
instance:bp prog 38:=⟨λargs w=>call38 args w⟩
instance:bp prog 39:=⟨λargs w=>call39 args w⟩
instance:bp prog 40:=⟨λargs w=>call40 args w⟩
instance:bp prog 41:=⟨λargs w=>call41 args w⟩
instance:bp prog 56:=⟨λargs w=>call56 args w⟩
instance:bp prog 57:=⟨λargs w=>call57 args w⟩
instance:bp prog 60:=⟨λargs w=>call60 args w⟩
instance:bp prog 61:=⟨λargs w=>call61 args w⟩
instance:bp prog 74:=⟨λargs w=>call74 args w⟩
instance:bp prog 76:=⟨λargs w=>call76 args w⟩
instance:bp prog 82:=⟨λargs w=>call82 args w⟩
instance:bp prog 83:=⟨λargs w=>call83 args w⟩
instance:bp prog 89:=⟨λargs w=>call89 args w⟩
instance:bp prog 110:=⟨λargs w=>call110 args w⟩
instance:bp prog 111:=⟨λargs w=>call111 args w⟩
instance:bp prog 112:=⟨λargs w=>call112 args w⟩
instance:bp prog 118:=⟨λargs w=>call118 args w⟩
instance:bp prog 125:=⟨λargs w=>call125 args w⟩
instance:bp prog 126:=⟨λargs w=>call126 args w⟩
instance:bp prog 129:=⟨λargs w=>call129 args w⟩
instance:bp prog 130:=⟨λargs w=>call130 args w⟩
instance:bp prog 137:=⟨λargs w=>call137 args w⟩
instance:bp prog 162:=⟨λargs w=>call162 args w⟩
instance:bp prog 163:=⟨λargs w=>call163 args w⟩
instance:bp prog 164:=⟨λargs w=>call164 args w⟩
instance:bp prog 165:=⟨λargs w=>call165 args w⟩
instance:bp prog 173:=⟨λargs w=>call173 args w⟩
instance:bp prog 175:=⟨λargs w=>call175 args w⟩
instance:bp prog 176:=⟨λargs w=>call176 args w⟩
instance:bp prog 177:=⟨λargs w=>call177 args w⟩
instance:bp prog 179:=⟨λargs w=>call179 args w⟩
instance:bp prog 180:=⟨λargs w=>call180 args w⟩
instance:bp prog 182:=⟨λargs w=>call182 args w⟩
instance:bp prog 187:=⟨λargs w=>call187 args w⟩
instance:bp prog 206:=⟨λargs w=>call206 args w⟩
instance:bp prog 208:=⟨λargs w=>call208 args w⟩
instance:bp prog 209:=⟨λargs w=>call209 args w⟩
instance:bp prog 210:=⟨λargs w=>call210 args w⟩
instance:bp prog 211:=⟨λargs w=>call211 args w⟩
instance:bp prog 213:=⟨λargs w=>call213 args w⟩
instance:bp prog 214:=⟨λargs w=>call214 args w⟩
instance:bp prog 215:=⟨λargs w=>call215 args w⟩
instance:bp prog 216:=⟨λargs w=>call216 args w⟩
instance:bp prog 217:=⟨λargs w=>call217 args w⟩
instance:bp prog 218:=⟨λargs w=>call218 args w⟩
instance:bp prog 219:=⟨λargs w=>call219 args w⟩
instance:bp prog 220:=⟨λargs w=>call220 args w⟩
instance:bp prog 226:=⟨λargs w=>call226 args w⟩
instance:bp prog 229:=⟨λargs w=>call229 args w⟩
instance:bp prog 253:=⟨λargs w=>call253 args w⟩
instance:bp prog 255:=⟨λargs w=>call255 args w⟩
instance:bp prog 256:=⟨λargs w=>call256 args w⟩
instance:bp prog 257:=⟨λargs w=>call257 args w⟩
instance:bp prog 258:=⟨λargs w=>call258 args w⟩
instance:bp prog 259:=⟨λargs w=>call259 args w⟩
instance:bp prog 260:=⟨λargs w=>call260 args w⟩
instance:bp prog 268:=⟨λargs w=>call268 args w⟩
instance:bp prog 290:=⟨λargs w=>call290 args w⟩
instance:bp prog 291:=⟨λargs w=>call291 args w⟩
instance:bp prog 292:=⟨λargs w=>call292 args w⟩
instance:bp prog 293:=⟨λargs w=>call293 args w⟩
instance:bp prog 307:=⟨λargs w=>call307 args w⟩
instance:bp prog 313:=⟨λargs w=>call313 args w⟩
instance:bp prog 317:=⟨λargs w=>call317 args w⟩
instance:bp prog 318:=⟨λargs w=>call318 args w⟩
end Go.Proofs
namespace Go.Sm
open Go.Mt
abbrev Nm:=ByteArray
inductive Xp where
 |mk (k op n:Int) (s:Nm) (names:List Nm) (kids:List Xp) (p:Int×Int)
abbrev aU(l:List Nm):List (List D):=l.map λx=>[.str x]
abbrev gw(k op n:Int)(s:Nm)(names:List Nm)(kids:List (List D))(p:Int×Int):List D:=[.int .u8 k,.int .u8 op,.int .i32 n,.str s,.sl (aU names),.sl kids,.int .i64 p.1,.int .i64 p.2]
mutual
def Xp.cells:Xp->List D
 |.mk k op n s names kids p=>gw k op n s names (zQ kids) p
def zQ:List Xp->List (List D)
 |[]=>[]
 |e::l=>e.cells::zQ l
end
theorem AR(l:List Xp):zQ l=l.map Xp.cells:=by induction l with
 |nil=>rfl
 |cons a l ih=>simp[zQ,ih]
def Xp.kd:Xp->Int|.mk k _ _ _ _ _ _=>k
def Xp.op:Xp->Int|.mk _ o _ _ _ _ _=>o
def Xp.num:Xp->Int|.mk _ _ n _ _ _ _=>n
def Xp.nm:Xp->Nm|.mk _ _ _ s _ _ _=>s
def Xp.names:Xp->List Nm|.mk _ _ _ _ l _ _=>l
def Xp.kids:Xp->List Xp|.mk _ _ _ _ _ l _=>l
def Xp.ps:Xp->Int×Int|.mk _ _ _ _ _ _ p=>p
theorem Xp.ai(e:Xp):e.cells=gw e.kd e.op e.num e.nm e.names (e.kids.map Xp.cells) e.ps:=by
 cases e;rw[Xp.cells,AR];rfl
theorem Xp.len(e:Xp):e.cells.length=8:=by rw[e.ai];rfl
theorem Xp.rT{e k:Xp}(h:k∈e.kids):SizeOf.sizeOf k<SizeOf.sizeOf e:=by
 cases e;have:=List.sizeOf_lt_of_mem h;simp only[Xp.kids]at this;simp;omega
abbrev fp:Xp:=.mk 0 0 0 ⟨#[]⟩ [] [] (0,0)
abbrev DM(z:Int):Xp:=.mk 1 0 z ⟨#[]⟩ [] [] (0,0)
structure Va where
 name:Nm
 tk:Int
 tn:Nm
 clock:List (Nm×Nm)
 last:Bool
 first:Xp
 ps:Int×Int
abbrev bN(l:List (Nm×Nm)):List (List D):=l.map λc=>[.str c.1,.str c.2]
def Va.cells(v:Va):List D:=[.str v.name,.int .u8 v.tk,.str v.tn,.sl (bN v.clock),.bool v.last]++v.first.cells++[.int .i64 v.ps.1,.int .i64 v.ps.2]
theorem Va.len(v:Va):v.cells.length=15:=by simp[Va.cells,Xp.len]
def aJ(l:List Va):List (List D):=l.map Va.cells
structure Tr where
 e:Xp
 to:Nm
 xm:Bool
 ps:Int×Int
def Tr.cells(t:Tr):List D:=t.e.cells++[.str t.to,.bool t.xm,.int .i64 t.ps.1,.int .i64 t.ps.2]
def ic(l:List Tr):List (List D):=l.map Tr.cells
mutual
inductive aF where
 |mk (k:Int) (lhs:List Nm) (f:Nm) (args:List Xp) (has:Bool) (e:Xp) (aj:List aT) (p:Int×Int)
inductive aT where
 |mk (name:Nm) (b:bJ) (jb jc:List Tr) (p:Int×Int)
inductive bJ where
 |mk (vars:List Va) (eqs:List aF)
end
abbrev dN(k:Int)(lhs:List Nm)(f:Nm)(args:List (List D))(has:Bool)(e:List D)(aj:List (List D))(p:Int×Int):List D:=[.int .u8 k,.sl (aU lhs),.str f,.sl args,.bool has]++e++[.sl aj,.int .i64 p.1,.int .i64 p.2]
mutual
def aF.cells:aF->List D
 |.mk k lhs f args has e aj p=>dN k lhs f (args.map Xp.cells) has e.cells (te aj) p
def aT.cells:aT->List D
 |.mk name b jb jc p=>[.str name]++b.cells++[.sl (ic jb),.sl (ic jc),.int .i64 p.1,.int .i64 p.2]
def te:List aT->List (List D)
 |[]=>[]
 |a::l=>a.cells::te l
def bJ.cells:bJ->List D
 |.mk vars eqs=>[.sl (aJ vars),.sl (zR eqs)]
def zR:List aF->List (List D)
 |[]=>[]
 |q::l=>q.cells::zR l
end
theorem ol(l:List aT):te l=l.map aT.cells:=by induction l with
 |nil=>rfl
 |cons a l ih=>simp[te,ih]
theorem uQ(l:List aF):zR l=l.map aF.cells:=by induction l with
 |nil=>rfl
 |cons a l ih=>simp[zR,ih]
def aF.kd:aF->Int|.mk k _ _ _ _ _ _ _=>k
def aF.lhs:aF->List Nm|.mk _ l _ _ _ _ _ _=>l
def aF.f:aF->Nm|.mk _ _ f _ _ _ _ _=>f
def aF.args:aF->List Xp|.mk _ _ _ a _ _ _ _=>a
def aF.has:aF->Bool|.mk _ _ _ _ h _ _ _=>h
def aF.ex:aF->Xp|.mk _ _ _ _ _ e _ _=>e
def aF.aj:aF->List aT|.mk _ _ _ _ _ _ l _=>l
def aF.ps:aF->Int×Int|.mk _ _ _ _ _ _ _ p=>p
def aT.name:aT->Nm|.mk n _ _ _ _=>n
def aT.be:aT->bJ|.mk _ b _ _ _=>b
def aT.jb:aT->List Tr|.mk _ _ u _ _=>u
def aT.jc:aT->List Tr|.mk _ _ _ w _=>w
def aT.ps:aT->Int×Int|.mk _ _ _ _ p=>p
def bJ.vars:bJ->List Va|.mk v _=>v
def bJ.eqs:bJ->List aF|.mk _ q=>q
theorem aF.ai(q:aF):q.cells=dN q.kd q.lhs q.f (q.args.map Xp.cells) q.has q.ex.cells (q.aj.map aT.cells) q.ps:=by cases q;rw[aF.cells,ol];rfl
theorem bJ.ai(b:bJ):b.cells=[.sl (aJ b.vars),.sl (b.eqs.map aF.cells)]:=by cases b;rw[bJ.cells,uQ];rfl
theorem aT.ai(a:aT):a.cells=[.str a.name,.sl (aJ a.be.vars),.sl (a.be.eqs.map aF.cells),.sl (ic a.jb),.sl (ic a.jc),.int .i64 a.ps.1,.int .i64 a.ps.2]:=by cases a;rw[aT.cells,bJ.ai];rfl
theorem aF.len(q:aF):q.cells.length=16:=by rw[q.ai];simp[dN,Xp.len]
theorem aT.len(a:aT):a.cells.length=7:=by rw[a.ai];rfl
theorem aT.Df(a:aT):SizeOf.sizeOf a.be<SizeOf.sizeOf a:=by cases a;simp[aT.be];omega
theorem aF.Dg{q:aF}{a:aT}(h:a∈q.aj):SizeOf.sizeOf a.be<SizeOf.sizeOf q:=by
 have:=a.Df;cases q;have:=List.sizeOf_lt_of_mem h;simp only[aF.aj]at this;simp;omega
theorem bJ.D'{b:bJ}{q:aF}(h:q∈b.eqs):SizeOf.sizeOf q<SizeOf.sizeOf b:=by
 cases b;have:=List.sizeOf_lt_of_mem h;simp only[bJ.eqs]at this;simp;omega
structure Nd where
 name:Nm
 ins:List Va
 outs:List Va
 b:bJ
 ps:Int×Int
def Nd.cells(n:Nd):List D:=[.str n.name,.sl (aJ n.ins),.sl (aJ n.outs),.sl (aJ n.b.vars),.sl (n.b.eqs.map aF.cells),.int .i64 n.ps.1,.int .i64 n.ps.2]
structure En where
 name:Nm
 fh:List Nm
 ps:Int×Int
def En.cells(e:En):List D:=[.str e.name,.sl (aU e.fh),.int .i64 e.ps.1,.int .i64 e.ps.2]
structure Pg where
 ao:List En
 nodes:List Nd
abbrev Pg.cells(p:Pg):List D:=[.sl (p.ao.map En.cells),.sl (p.nodes.map Nd.cells)]
def fq(l:List Nat):Nat:=l.foldr (·+ ·) 0
theorem Ea(a:Nat)(l:List Nat):fq (a::l)=a+fq l:=rfl
theorem pg(a b:List Nat):fq (a++b)=fq a+fq b:=by
 induction a with
 |nil=>simp[fq]
 |cons x a ih=>simp only[fq,List.cons_append,List.foldr_cons]at ih⊢;omega
theorem Eu{l:List Nat}{x:Nat}(h:x∈l):x<=fq l:=by
 induction l with
 |nil=>cases h
 |cons a l ih=>
  simp only[fq,List.foldr_cons];rcases List.mem_cons.1 h with rfl|h
  ·omega
  ·have:=ih h;simp only[fq]at this;omega
theorem yK(l:List Nat)(i:Nat):fq (l.take i)<=fq l:=by
 have:=pg (l.take i) (l.drop i);rw[List.take_append_drop]at this;omega
theorem Ev{α:Type}(f:α->Nat){l:List α}{i:Nat}(h:i<l.length):fq ((l.take (i+1)).map f)=fq ((l.take i).map f)+f l[i]/\fq ((l.take (i+1)).map f)<=fq (l.map f):=by
 refine⟨?_,?_⟩
 ·rw[List.take_succ_eq_append_getElem h,List.map_append,pg];simp[fq]
 ·have:=yK (l.map f) (i+1);rw[<-List.map_take]at this;exact this
def DN(k:Int):Nat:=if k=9\/k=10\/k=11 then 1 else 0
def B9(k:Int):Nat:=if k=2\/k=4 then 1 else 0
mutual
def xP:Xp->Nat
 |.mk k _ _ _ _ kids _=>DN k+AS kids
def AS:List Xp->Nat
 |[]=>0
 |e::l=>xP e+AS l
end
theorem zS(l:List Xp):AS l=fq (l.map xP):=by induction l with
 |nil=>rfl
 |cons a l ih=>rw[AS,ih];rfl
theorem E6(e:Xp):xP e=DN e.kd+fq (e.kids.map xP):=by cases e;rw[xP,zS];rfl
def fw(l:List Va):Nat:=(l.filter (·.last)).length
theorem DO(l:List Va)(i:Nat):fw (l.take i)<=fw l:=by
 have:fw (l.take i)+fw (l.drop i)=fw l:=by
  unfold fw;rw[<-List.length_append,<-List.filter_append,List.take_append_drop]
 omega
theorem ug(a b:List Va):fw (a++b)=fw a+fw b:=by simp[fw]
theorem DP(l:List Va)(w:Va):fw (l++[w])=fw l+(if w.last then 1 else 0):=by
 rw[ug];congr 1;cases h:w.last<;>simp[fw,h]
mutual
def qP:aF->Nat
 |.mk k _ _ args _ e aj _=>xP e+AS args+B9 k+vV aj
def uR:aT->Nat
 |.mk _ b _ _ _=>bP b
def vV:List aT->Nat
 |[]=>0
 |a::l=>uR a+vV l
def bP:bJ->Nat
 |.mk vars eqs=>fw vars+Dh eqs
def Dh:List aF->Nat
 |[]=>0
 |q::l=>qP q+Dh l
end
theorem AT(l:List aT):vV l=fq (l.map uR):=by induction l with
 |nil=>rfl
 |cons a l ih=>rw[vV,ih];rfl
theorem Di(l:List aF):Dh l=fq (l.map qP):=by induction l with
 |nil=>rfl
 |cons a l ih=>rw[Dh,ih];rfl
theorem E7(b:bJ):bP b=fw b.vars+fq (b.eqs.map qP):=by cases b;rw[bP,Di];rfl
theorem EF(a:aT):uR a=bP a.be:=by cases a;rw[uR];rfl
theorem E8(q:aF):qP q=xP q.ex+fq (q.args.map xP)+B9 q.kd+fq (q.aj.map uR):=by cases q;rw[qP,AT,zS];rfl
inductive yL:Xp->Prop where
 |mk {k op n:Int} {s:Nm} {names:List Nm} {kids:List Xp} {p:Int×Int} (h0:k=9->kids≠[]) (h1:kids.length<=1000000) (h2:names.length<=1000000) (h3:∀e∈kids,yL e):yL (.mk k op n s names kids p)
structure Fo(t:Tr):Prop where
 e:yL t.e
inductive vW:bJ->Prop where
 |mk {vars:List Va} {eqs:List aF} (h1:vars.length<=1000000) (h2:eqs.length<=1000000)
   (h3:∀q∈eqs,∀a∈q.aj,vW a.be) (h4:∀q∈eqs,q.aj.length<=1000) (h5:∀q∈eqs,yL q.ex/\q.args.length<=1000000/\∀e∈q.args,yL e) (h6:∀q∈eqs,q.lhs.length<=1000000)
   (h7:∀q∈eqs,∀a∈q.aj,a.jb.length<=1000000/\a.jc.length<=1000000):vW (.mk vars eqs)
abbrev zT:Nm:=⟨#[102,97,108,115,101]⟩
abbrev B_:Nm:=⟨#[116,114,117,101]⟩
def qY(l:List Nm)(x:Nm):Int:=match l.findIdx? (λy=>decide (y=x))with
 |some i=>(i:Int)
 |none=> -1
def dh(l:List Nm)(x:Nm):Bool:=l.any λy=>decide (y=x)
theorem uS{l:List Nm}{x:Nm} :dh l x=true↔x∈l:=by simp[dh]
def B'(en:List En)(tk:Int)(tn:Nm):List Nm:=
 if tk=1 then [zT,B_]else if tk=3 then(match en.find? (λe=>decide (e.name=tn))with|some e=>e.fh|none=>[])else []
def xn(en:List En)(x:Nm):Int:=match en.find? (λt=>dh t.fh x)with
 |some t=>qY t.fh x
 |none=>0
def d_(en:List En)(e:Xp):Int:=if e.kd=1\/e.kd=2 then e.num else if e.kd=3 then xn en e.nm else 0
def zU(en:List En)(x:Nm):Int:=if x=zT then 0 else if x=B_ then 1 else xn en x
def i32(n:Int):Int:=IntKind.i32.wrap n
def lr(b:Bool):Int:=if b then 1 else 0
def E9(op a:Int):Int:=if op=1 then lr (a==0)else if op=2 then i32 (-a)else 0
def EG(op a b:Int):Int:=
 if op=3 then i32 (a+b)else if op=4 then i32 (a-b)else if op=5 then i32 (a*b)
 else if op=6 then(if b=0 then 0 else if a= -2147483648/\b= -1 then a else i32 (Int.tdiv a b))
 else if op=7 then(if b=0 then 0 else if a= -2147483648/\b= -1 then 0 else Int.tmod a b)
 else if op=8 then lr (a !=0&&b !=0)else if op=9 then lr (a !=0||b !=0)
 else if op=10\/op=12 then lr (a !=b)else if op=11 then lr (a==b)
 else if op=13 then lr (decide (a<b))else if op=14 then lr (decide (a<=b))else if op=15 then lr (decide (b<a))else if op=16 then lr (decide (b<=a))else 0
def EH(en:List En)(k:Int)(kids:List Xp):List (Option Int):=
 if k=9 then [some (match kids with|e::_=>d_ en e|[]=>0)]else if k=10 then [some 0]else if k=11 then [some 1]else []
mutual
def EI(en:List En):Xp->List (Option Int)
 |.mk k _ _ _ _ kids _=>EH en k kids++Ca en kids
def Ca(en:List En):List Xp->List (Option Int)
 |[]=>[]
 |e::l=>EI en e++Ca en l
end
def EJ(en:List En)(l:List Va):List (Option Int):=(l.filter (·.last)).map λv=>some (d_ en v.first)
mutual
def E_(en:List En):aF->List (Option Int)
 |.mk k _ _ args _ e aj _=>List.replicate (B9 k) none++(EI en e++Ca en args)++DQ en aj
def E'(en:List En):aT->List (Option Int)
 |.mk _ b _ _ _=>EK en b
def DQ(en:List En):List aT->List (Option Int)
 |[]=>[]
 |a::l=>E' en a++DQ en l
def EK(en:List En):bJ->List (Option Int)
 |.mk vars eqs=>EJ en vars++DR en eqs
def DR(en:List En):List aF->List (Option Int)
 |[]=>[]
 |q::l=>E_ en q++DR en l
end
def AU(en:List En)(d:Nd):List (Option Int):=EK en d.b++EJ en d.outs
def Fa(d:Nd):Nat:=bP d.b+fw d.outs
inductive US where
 |mk (i:Nat) (mem:Nat->Int) (zV:Nat->Bool) (zW:Nat->Option US)
def US.i:US->Nat|.mk i _ _ _=>i
def US.mem:US->Nat->Int|.mk _ m _ _=>m
def US.zV:US->Nat->Bool|.mk _ _ p _=>p
def US.zW:US->Nat->Option US|.mk _ _ _ s=>s
def xo(l:List (Option Int))(k:Nat):Int:=((l[k]?).getD none).getD 0
def US.init(p:Pg)(i:Nat):US:=.mk i (λk=>match p.nodes[i]? with|some d=>xo (AU p.ao d) k|none=>0) (λ_=>false) (λ_=>none)
structure Dj where
 vars:List Va
 yM:List (Option Nat)
 eqs:List aF
 pos:List Nat
def ph:List Va->Nat->List (Option Nat)
 |[],_=>[]
 |v::l,a=>if v.last then some a::ph l (a+1)else none::ph l a
def Cb:List aF->Nat->List Nat
 |[],_=>[]
 |q::l,a=>a::Cb l (a+qP q)
def Eb(b:bJ)(a:Nat):Dj:=⟨b.vars,ph b.vars a,b.eqs,Cb b.eqs (a+fw b.vars)⟩
def EL(d:Nd):Dj:=⟨d.ins++d.outs++d.b.vars,List.replicate d.ins.length none++ph d.outs (bP d.b)++ph d.b.vars 0,d.b.eqs,Cb d.b.eqs (fw d.b.vars)⟩
def oq(l:List Va)(x:Nm):Option Nat:=l.findIdx? (λv=>decide (v.name=x))
def dl(l:List Nm)(x:Nm):List Nm:=if dh l x then l else l++[x]
mutual
def bV:aF->List Nm
 |.mk _ lhs _ _ _ _ aj _=>bE lhs aj
def bE(l:List Nm):List aT->List Nm
 |[]=>l
 |a::r=>bE ((ot a).foldl dl l) r
def ot:aT->List Nm
 |.mk _ b _ _ _=>cX b
def cX:bJ->List Nm
 |.mk vars eqs=>jk vars [] eqs
def jk(vars:List Va)(l:List Nm):List aF->List Nm
 |[]=>l
 |q::r=>jk vars (((bV q).filter λx=>(oq vars x).isNone).foldl dl l) r
end
abbrev Path:=List Nat
inductive It where
 |cell (π:Path) (k:Nat)|call (π:Path) (j:Nat)|mh (π:Path) (j:Nat)|lv (π:Path) (j:Nat)
structure lD where
 ok:Path->Prop
 fr:Path->Dj
 val:Path->Nat->Option Int
 rk:Path->Nat->Nat
 sb:Path->Nat->Nat
 ek:Path->Nat->Nat
 mh:Path->Nat->Nat
 xp:Path->Nat->Bool
 ev:Path->Nat->Int
 ew:Path->Nat->List (Nat×Int)
 outs:Path->Nat->List Int
 DU:Path->Nat->US
 Dk:Path->Nat->Nat
 nan:Path->Nat->Bool
 rd:Nat->Int
 rp:Nat->Bool
 rs:Nat->Option US
 uh:Nat
 sz:Nat
 tf:List It
 wt:It->Nat
def lD.find(c:lD):Path->Nm->Option (Path×Nat)
 |[],x=>(oq (c.fr []).vars x).map λk=>([],k)
 |j::π,x=>match oq (c.fr (j::π)).vars x with
  |some k=>some (j::π,k)
  |none=>c.find π x
def lD.get(c:lD)(σ:Path×Nat):Int:=(c.val σ.1 σ.2).getD 0
def lD.xq(c:lD)(σ:Path×Nat):Nat:=c.rk σ.1 σ.2
def lD.fh(en:List En)(c:lD)(σ:Path×Nat):List Nm:=match(c.fr σ.1).vars[σ.2]? with
 |some v=>B' en v.tk v.tn
 |none=>[]
section
variable(en:List En)(c:lD)
inductive gQ(π:Path):Nat->Xp->Nat->Int->List (Nat×Int)->Prop where
 |Fp {r k op n s names kids p a} (hk:k=1\/k=2\/k=3):gQ π r (.mk k op n s names kids p) a (d_ en (.mk k op n s names kids p)) []
 |var {r op n s names kids p a σ} (h:c.find π s=some σ) (hr:c.xq σ<r):gQ π r (.mk 4 op n s names kids p) a (c.get σ) []
 |last {r op n s names kids p a σ q} (h:c.find π s=some σ) (hp:(c.fr σ.1).yM[σ.2]?=some (some q)) (hq:q<c.sz):gQ π r (.mk 5 op n s names kids p) a (c.rd q) []
 |un {r op n s names x p a v w} (h:gQ π r x a v w):gQ π r (.mk 6 op n s names [x] p) a (E9 op v) w
 |bin {r op n s names x y p a v w v' w'} (h:gQ π r x a v w) (h':gQ π r y (a+xP x) v' w'):gQ π r (.mk 7 op n s names [x,y] p) a (EG op v v') (w++w')
 |ite {r op n s names x y z p a v w v' w' Qo JH} (h:gQ π r x a v w) (h':gQ π r y (a+xP x) v' w') (Up:gQ π r z (a+xP x+xP y) Qo JH):gQ π r (.mk 8 op n s names [x,y,z] p) a (if v=0 then Qo else v') (w++w'++JH)
 |Fq {r op n s names x y p a v w} (ha:a<c.sz) (h:gQ π c.uh y (a+1+xP x) v w):gQ π r (.mk 9 op n s names [x,y] p) a (c.rd a) ((a,v)::w)
 |pre {r op n s names y p a v w} (ha:a<c.sz) (h:gQ π c.uh y (a+1) v w):gQ π r (.mk 10 op n s names [y] p) a (c.rd a) ((a,v)::w)
 |arrow {r op n s names x y p a v w v' w'} (ha:a<c.sz) (h:gQ π r x (a+1) v w) (h':gQ π r y (a+1+xP x) v' w'):gQ π r (.mk 11 op n s names [x,y] p) a (if c.rd a=0 then v' else v) ((a,0)::(w++w'))
 |Fs {r op n s names x p a v w} (h:gQ π r x a v w):gQ π r (.mk 12 op n s names [x] p) a v w
 |merge {r op n s names kids p a σ i cn e v w} (h:c.find π s=some σ) (hr:c.xq σ<r) (hi:names[i]?=some cn) (hn:qY (c.fh en σ) cn=c.get σ)
   (JQ:∀(i':Nat) (x:Nm),i'<i->names[i']?=some x->qY (c.fh en σ) x≠c.get σ) (hk:kids[i]?=some e) (he:gQ π r e (a+AS (kids.take i)) v w):gQ π r (.mk 13 op n s names kids p) a v w
inductive zY(π:Path)(r:Nat):List Xp->Nat->List Int->List (Nat×Int)->Prop where
 |nil {a} :zY π r [] a [] []
 |cons {e l a v w vs ws} (h:gQ en c π r e a v w) (h':zY π r l (a+xP e) vs ws):zY π r (e::l) a (v::vs) (w++ws)
inductive Cc(π:Path)(r:Nat):List (Nm×Nm)->Bool->Prop where
 |nil:Cc π r [] true
 |no {k x l σ} (h:c.find π x=some σ) (hr:c.xq σ<r) (hv:∀n,c.val σ.1 σ.2=some n->qY (c.fh en σ) k≠n):Cc π r ((k,x)::l) false
 |Fb {k x l σ n b} (h:c.find π x=some σ) (hr:c.xq σ<r) (hv:c.val σ.1 σ.2=some n) (hn:qY (c.fh en σ) k=n) (h':Cc π r l b):Cc π r ((k,x)::l) b
inductive uT(π:Path)(r:Nat):List Tr->Option Tr->Prop where
 |nil:uT π r [] none
 |Fb {t l v} (h:gQ en c π r t.e 0 v []) (hv:v≠0):uT π r (t::l) (some t)
 |no {t l o} (h:gQ en c π r t.e 0 0 []) (h':uT π r l o):uT π r (t::l) o
inductive Src:Nat->Path->Nat->Nm->Option (Path×Nat)->Prop where
 |leaf {r π j x q} (hq:(c.fr π).eqs[j]?=some q) (hk:q.kd=1\/q.kd=2) (hr:c.ek π j<=r):Src r π j x (some (π,j))
 |mh {r π j x q j' q' s} (hq:(c.fr π).eqs[j]?=some q) (hk:q.kd=3\/q.kd=4\/q.kd=5) (hr:c.ek π j<=r) (h':(c.fr (j::π)).eqs[j']?=some q') (hd:x∈bV q')
   (hf:∀(i:Nat) (q:aF),i<j'->(c.fr (j::π)).eqs[i]?=some q->x∉bV q) (h:Src r (j::π) j' x s):Src r π j x s
 |last {r π j x q} (hq:(c.fr π).eqs[j]?=some q) (hk:q.kd=3\/q.kd=4\/q.kd=5) (hr:c.ek π j<=r) (HL:∀q'∈(c.fr (j::π)).eqs,x∉bV q'):Src r π j x none
end
def Cd(q:aF)(p:Nat):Nat:=if q.kd=4 then p+1 else p+xP q.ex
def yN(q:aF)(p a:Nat):Nat:=Cd q p+fq ((q.aj.take a).map uR)
def Dl(l:List Nd)(x:Nm):Option Nat:=l.findIdx? (λd=>decide (d.name=x))
def Ce(l:List aT)(x:Nm):Option Nat:=l.findIdx? (λa=>decide (a.name=x))
def lD.rD(c:lD)(π:Path)(q:aF):Prop:=(q.kd=1\/q.kd=2)->match q.lhs with
 |[]=>True
 |x::_=>∃σ,c.find π x=some σ/\(c.val σ.1 σ.2).isSome=true
section
variable(P:Pg)(step:US->List Int->List Int->US->Prop)(c:lD)
structure Cf(π:Path)(j:Nat)(q:aF)(p:Nat)(a:aT):Prop where
 ha:q.aj[c.mh π j]?=some a
 ok:c.ok (j::π)
 fr:c.fr (j::π)=Eb a.be (yN q p (c.mh π j))
inductive Fc(π:Path)(j:Nat)(q:aF)(p:Nat):Prop where
 |df (hk:q.kd=1) (x:Nm) (hl:q.lhs=[x]) (he:c.rD π q->gQ P.ao c π (c.ek π j) q.ex p (c.ev π j) (c.ew π j))
 |call (hk:q.kd=2) (hp:p<c.sz) (ci:Nat) (hn:Dl P.nodes q.f=some ci) (w0 w1:List (Nat×Int)) (vs:List Int)
   (h0:c.rD π q->if q.has then gQ P.ao c π (c.ek π j) q.ex (p+1) (c.ev π j) w0 else c.ev π j=0/\w0=[])
   (h1:c.rD π q->zY P.ao c π (c.ek π j) q.args (p+1+xP q.ex) vs w1) (hw:c.ew π j=w0++w1)
   (hs:c.rD π q->step (((if c.ev π j=0 then c.rs p else none)).getD (US.init P ci)) vs (c.outs π j) (c.DU π j))
   (hi:c.rD π q->∀u,c.rs p=some u->u.i=ci)
   (ho:c.rD π q->q.lhs.length<=(c.outs π j).length)
 |sw (hk:q.kd=3) (he:gQ P.ao c π (c.ek π j) q.ex p (c.ev π j) (c.ew π j)) (a:aT) (ha:Cf c π j q p a) (hv:zU P.ao a.name=c.ev π j)
   (hf:∀(i:Nat) (b:aT),i<c.mh π j->q.aj[i]?=some b->zU P.ao b.name≠c.ev π j) (hn:c.xp π j=false)
 |Fk (hk:q.kd=4) (hp:p<c.sz) (s:Nat) (a0:aT) (hs:c.rd p=(s:Int)) (h0:q.aj[s]?=some a0) (t:Option Tr) (hu:uT P.ao c π (c.ek π j) a0.jb t)
   (ht:match t with|none=>c.mh π j=s/\c.xp π j=c.rp p|some t=>Ce q.aj t.to=some (c.mh π j)/\c.xp π j= !t.xm) (a:aT) (ha:Cf c π j q p a)
   (t':Option Tr) (NB:uT P.ao c (j::π) c.uh a.jc t') (Uq:match t' with|none=>c.Dk π j=c.mh π j/\c.nan π j=false|some t=>Ce q.aj t.to=some (c.Dk π j)/\c.nan π j= !t.xm)
   (hw:c.ew π j=[])
 |reset (hk:q.kd=5) (he:gQ P.ao c π (c.ek π j) q.ex p (c.ev π j) (c.ew π j)) (a:aT) (ha:Cf c π j q p a) (h0:c.mh π j=0) (hn:c.xp π j=decide (c.ev π j≠0))
def zZ(f:Dj)(k:Nat)(v:Va)(j:Nat):Prop:=oq f.vars v.name=some k/\(∃q,f.eqs[j]?=some q/\v.name∈bV q)/\∀(i:Nat) (q:aF),j<i->f.eqs[i]?=some q->v.name∉bV q
structure Ec(π:Path)(k:Nat)(v:Va)(lp:Option Nat):Prop where
 pr:Cc P.ao c π (c.sb π k) v.clock (c.val π k).isSome
 sr:c.sb π k<=c.rk π k
 tp:c.rk π k<c.uh
 df:∀n,c.val π k=some n->∃j s,zZ (c.fr π) k v j/\Src c (c.sb π k) π j v.name s/\match s with
  |none=>∃p,lp=some p/\p<c.sz/\n=c.rd p
  |some (Lk,j')=>c.find Lk v.name=some (π,k)/\∃q,(c.fr Lk).eqs[j']?=some q/\(q.kd=1->q.lhs=[v.name]/\n=c.ev Lk j')/\(q.kd=2->v.name∈q.lhs/\c.rD Lk q)
def EM(k:Nat)(v:Int):Prop:=(∃π j q,c.ok π/\(c.fr π).eqs[j]?=some q/\c.rD π q/\(k,v)∈c.ew π j)\/(∃π i,c.ok π/\(c.fr π).yM[i]?=some (some k)/\c.val π i=some v)
 \/(∃π j q,c.ok π/\(c.fr π).eqs[j]?=some q/\q.kd=4/\(c.fr π).pos[j]?=some k/\v=(c.Dk π j:Int))
def EO(k:Nat)(b:Bool):Prop:=∃π j q,c.ok π/\(c.fr π).eqs[j]?=some q/\q.kd=4/\(c.fr π).pos[j]?=some k/\b=c.nan π j
def EP(k:Nat)(u:US):Prop:=∃π j q,c.ok π/\(c.fr π).eqs[j]?=some q/\q.kd=2/\c.rD π q/\(c.fr π).pos[j]?=some k/\u=c.DU π j
def qk(k:Nat):Prop:=∃π j q p a,c.ok π/\(c.fr π).eqs[j]?=some q/\(c.fr π).pos[j]?=some p/\(q.kd=3\/q.kd=4\/q.kd=5)/\c.xp π j=true/\q.aj[c.mh π j]?=some a/\yN q p (c.mh π j)<=k/\k<yN q p (c.mh π j)+bP a.be
structure Ed(d:Nd)(u:US)(ins outs:List Int)(u':US):Prop where
 nd:P.nodes[u.i]?=some d
 sz:c.sz=Fa d
 Ft:c.ok []
 lP:∀j π,c.ok (j::π)->c.ok π/\∃q,(c.fr π).eqs[j]?=some q/\(q.kd=3\/q.kd=4\/q.kd=5)
 Fu:c.fr []=EL d
 Fl:ins.length=d.ins.length
 Fm:∀(k:Nat) (v:Va) (n:Int),d.ins[k]?=some v->ins[k]?=some n->c.val [] k=some n/\c.rk [] k<c.uh
 cell:∀π k v lp,c.ok π->(c.fr π).vars[k]?=some v->(c.fr π).yM[k]?=some lp->(π=[]->d.ins.length<=k)->Ec P c π k v lp
 eq:∀π j q p,c.ok π->(c.fr π).eqs[j]?=some q->(c.fr π).pos[j]?=some p->Fc P step c π j q p/\c.ek π j<c.uh
 lhs:∀π j q,c.ok π->(c.fr π).eqs[j]?=some q->q.kd=2->c.rD π q->∀(i:Nat) (x:Nm),q.lhs[i]?=some x->∃σ n,c.find π x=some σ/\c.val σ.1 σ.2=some n/\(c.outs π j)[i]?=some n/\c.sb σ.1 σ.2=c.ek π j/\c.ek π j<=c.xq σ
  /\(∀i' x' FO,q.lhs[i']?=some x'->c.find π x'=some FO->FO=σ->i'=i)/\∃s j0,zZ (c.fr σ.1) σ.2 s j0/\s.name=x/\(c.fr σ.1).vars[σ.2]?=some s/\Src c (c.sb σ.1 σ.2) σ.1 j0 x (some (π,j))/\(σ.1=[]->d.ins.length<=σ.2)
 nx:∀π j,c.Dk π j<=1000
 Fv:∀π,¬c.ok π->(c.fr π).vars=[]/\(c.fr π).eqs=[]
 gh:∀(π:Path) (j:Nat) (q:aF),(c.fr π).eqs[j]?=some q->q.kd=2->c.sb (j::π) 0=c.ek π j/\c.val (j::π) 0=none
 lh:∀(π:Path) (j:Nat) (q:aF),c.ok π->(c.fr π).eqs[j]?=some q->∀x∈q.lhs,∀σ,c.find π x=some σ->σ.1=[]->d.ins.length<=σ.2
 Fw:∀(i:Nat) (v:Va),d.outs[i]?=some v->c.find [] v.name=some ([],d.ins.length+i)
 Fy:∀(π:Path) (j:Nat) (q:aF) (x:Nm),c.ok π->(c.fr π).eqs[j]?=some q->q.kd=1->q.lhs=[x]->c.rD π q->∃σ s j0,c.find π x=some σ/\zZ (c.fr σ.1) σ.2 s j0/\s.name=x/\(c.fr σ.1).vars[σ.2]?=some s/\Src c (c.sb σ.1 σ.2) σ.1 j0 x (some (π,j))/\(σ.1=[]->d.ins.length<=σ.2)
 Fz:∀(π:Path) (j:Nat) (q:aF),c.ok π->(c.fr π).eqs[j]?=some q->∀x∈bV q,∃σ,c.find π x=some σ
 aj:∀(π:Path) (j:Nat) (q:aF),c.ok π->(c.fr π).eqs[j]?=some q->q.kd=1\/q.kd=2->q.aj=[]
 rd:∀k,k<c.sz->(qk c k->c.rd k=xo (AU P.ao d) k)/\(¬qk c k->c.rd k=u.mem k)
 rp:∀k,k<c.sz->(qk c k->(AU P.ao d)[k]?=some none->c.rp k=false)/\(¬(qk c k/\(AU P.ao d)[k]?=some none)->c.rp k=u.zV k)
 rs:∀k,k<c.sz->(qk c k->(AU P.ao d)[k]?=some none->c.rs k=none)/\(¬(qk c k/\(AU P.ao d)[k]?=some none)->c.rs k=u.zW k)
 nm:∀k,k<c.sz->(∀v,EM c k v->u'.mem k=v)/\((∀v,¬EM c k v)->u'.mem k=c.rd k)
 np:∀k,k<c.sz->(∀v,EO c k v->u'.zV k=v)/\((∀v,¬EO c k v)->u'.zV k=c.rp k)
 ns:∀k,k<c.sz->(∀v,EP c k v->u'.zW k=some v)/\((∀v,¬EP c k v)->u'.zW k=c.rs k)
 ui:u'.i=u.i
 wc:∀π k v,c.ok π->(c.fr π).vars[k]?=some v->(π=[]->d.ins.length<=k)->It.cell π k∈c.tf/\1<=c.wt (.cell π k)/\∀j Lk j' q,zZ (c.fr π) k v j->Src c (c.sb π k) π j v.name (some (Lk,j'))->(c.fr Lk).eqs[j']?=some q->q.kd=1->1+(c.ew Lk j').length<=c.wt (.cell π k)
 wq:∀π j q,c.ok π->(c.fr π).eqs[j]?=some q->(q.kd=2->c.rD π q->It.call π j∈c.tf/\(c.ew π j).length<=c.wt (.call π j))/\(q.kd=3\/q.kd=4\/q.kd=5->It.mh π j∈c.tf/\(c.ew π j).length<=c.wt (.mh π j))/\(q.kd=4->It.lv π j∈c.tf/\1<=c.wt (.lv π j))
 ws:(c.tf.map c.wt).foldr (·+ ·) 0<=1000000000000
 outs:outs=(List.range d.outs.length).map λi=>c.get ([],d.ins.length+i)
end
def Ee(P:Pg):Nat->US->List Int->List Int->US->Prop
 |0,_,_,_,_=>False
 |n+1,u,ins,outs,u'=>∃c d,Ed P (Ee P n) c d u ins outs u'
end Go.Sm
namespace Go.Ps
open Go.Mt Go.Sm
def dg(n:Nat):Nm:=⟨(Lib.decDigits n).toArray⟩
def rE(c:UInt8)(n:Nat):Nm:=⟨#[95,c]⟩++dg n
abbrev nT:=rE 84
abbrev nS:=rE 115
abbrev nR:=rE 114
abbrev nA:=rE 97
abbrev nB:=rE 98
abbrev nN:=rE 110
abbrev nM:=rE 109
abbrev nV:=rE 118
abbrev nE:=rE 101
abbrev nX:=rE 120
def fx(k:Nat)(st:Nm):Nm:=nT k++⟨#[95]⟩++st
abbrev fy(s:Nm):Xp:=.mk 3 0 0 s [] [] (0,0)
abbrev bk(s:Nm):Xp:=.mk 4 0 0 s [] [] (0,0)
abbrev iB(b:Bool):Xp:=.mk 2 0 (if b then 1 else 0) ⟨#[]⟩ [] [] (0,0)
abbrev fG(x:Nm)(e:Xp)(p:Int×Int):aF:=.mk 1 [x] ⟨#[]⟩ [] false e [] p
abbrev jg(c e:Xp):Xp:=.mk 9 0 0 ⟨#[]⟩ [] [c,e] (0,0)
abbrev xr(a b c:Xp)(p:Int×Int):Xp:=.mk 8 0 0 ⟨#[]⟩ [] [a,b,c] p
abbrev jS(e:Xp)(o:Nm×Nm):Xp:=.mk 12 0 0 o.2 [o.1] [e] (0,0)
structure DS where
 n:Nat
 ao:List En
def vX(k:Nat):List Tr->Xp×Xp->Xp×Xp
 |[],r=>r
 |t::l,r=>(xr t.e (fy (fx k t.to)) (vX k l r).1 t.ps,xr t.e (iB (!t.xm)) (vX k l r).2 t.ps)
def fW(k:Nat)(a:aT):aT:=
 let w:=vX k a.jb (fy (fx k a.name),bk (nR k))
 .mk (fx k a.name) (.mk [] [fG (nA k) w.1 a.ps,fG (nB k) w.2 a.ps]) [] [] a.ps
def gY(k:Nat)(a:aT):aT:=
 let w:=vX k a.jc (fy (fx k a.name),iB false)
 .mk (fx k a.name) (.mk [] [.mk 5 [] ⟨#[]⟩ [] false (bk (nB k)) [.mk ⟨#[]⟩ (.mk a.be.vars (a.be.eqs++[fG (nN k) w.1 a.ps,fG (nM k) w.2 a.ps])) [] [] a.ps] a.ps]) [] [] a.ps
def iR(k:Nat)(p:Int×Int):List Va:=
 [⟨nS k,3,nT k,[],false,fp,p⟩,⟨nA k,3,nT k,[],false,fp,p⟩,⟨nN k,3,nT k,[],false,fp,p⟩,
 ⟨nR k,1,⟨#[]⟩,[],false,fp,p⟩,⟨nB k,1,⟨#[]⟩,[],false,fp,p⟩,⟨nM k,1,⟨#[]⟩,[],false,fp,p⟩]
def mi(k:Nat)(aj:List aT)(p:Int×Int):List aF:=
 [fG (nS k) (jg (fy (fx k ((aj.head?.map aT.name).getD ⟨#[]⟩))) (bk (nN k))) p,
 fG (nR k) (jg (iB false) (bk (nM k))) p,
 .mk 3 [] ⟨#[]⟩ [] false (bk (nS k)) (aj.map (fW k)) p,
 .mk 3 [] ⟨#[]⟩ [] false (bk (nA k)) (aj.map (gY k)) p]
def ni(k:Nat)(aj:List aT)(p:Int×Int):En:=⟨nT k,aj.map λa=>fx k a.name,p⟩
def pi(q:aF)(s:DS):List Va×List aF×DS:=
 if q.kd=4 then(iR (s.n+1) q.ps,mi (s.n+1) q.aj q.ps,⟨s.n+1,s.ao++[ni (s.n+1) q.aj q.ps]⟩)
 else([],[q],s)
mutual
def gZ:bJ->DS->bJ×DS
 |.mk vars eqs,s=>(.mk (vars++(cP eqs s).1) (cP eqs s).2.1,(cP eqs s).2.2)
def ls:aF->DS->List Va×List aF×DS
 |.mk k lhs f args has e aj p,s=>pi (.mk k lhs f args has e (cv aj s).1 p) (cv aj s).2
def cP:List aF->DS->List Va×List aF×DS
 |[],s=>([],[],s)
 |q::l,s=>((ls q s).1++(cP l (ls q s).2.2).1,(ls q s).2.1++(cP l (ls q s).2.2).2.1,(cP l (ls q s).2.2).2.2)
def rF:aT->DS->aT×DS
 |.mk n b u w p,s=>(.mk n (gZ b s).1 u w p,(gZ b s).2)
def cv:List aT->DS->List aT×DS
 |[],s=>([],s)
 |a::l,s=>((rF a s).1::(cv l (rF a s).2).1,(cv l (rF a s).2).2)
end
def xu(d:Nd)(s:DS):Nd×DS:=(⟨d.name,d.ins,d.outs,(gZ d.b s).1,d.ps⟩,(gZ d.b s).2)
def dD:List Nd->DS->List Nd×DS
 |[],s=>([],s)
 |d::l,s=>((xu d s).1::(dD l (xu d s).2).1,(dD l (xu d s).2).2)
def Cg(p:Pg):Pg:=⟨p.ao++(dD p.nodes ⟨0,[]⟩).2.ao,(dD p.nodes ⟨0,[]⟩).1⟩
mutual
def jT:Xp->List Nm->List Nm
 |.mk k _ _ x _ kids _,l=>if k=4\/k=13 then dz kids (dl l x)else if k=12 then dl (dz kids l) x else dz kids l
def dz:List Xp->List Nm->List Nm
 |[],l=>l
 |e::r,l=>dz r (jT e l)
end
mutual
def iC:Xp->List Nm->List Nm
 |.mk k _ _ x _ kids _,l=>eV kids (if k=5 then dl l x else l)
def eV:List Xp->List Nm->List Nm
 |[],l=>l
 |e::r,l=>eV r (iC e l)
end
structure Bd where
 name:Nm
 jm:Nat
 tk:Int
 tn:Nm
abbrev Env:=Nm->Option Bd
def Env.set(f:Env)(x:Nm)(b:Bd):Env:= λy=>if y=x then some b else f y
def Env.nm(f:Env)(x:Nm):Nm:=match f x with|some b=>b.name|none=>⟨#[]⟩
def Env.ty(f:Env)(x:Nm):Int×Nm:=match f x with|some b=>(b.tk,b.tn)|none=>(0,⟨#[]⟩)
structure Sc where
 vars:Env
 aS:Env
 ck:List (Nm×Nm)
structure MS where
 n:Nat
 vars:List Va
def MS.fresh(m:MS)(t:Int×Nm)(ck:List (Nm×Nm)):MS:=⟨m.n+1,m.vars++[⟨nV (m.n+1),t.1,t.2,ck,false,fp,(0,0)⟩]⟩
mutual
def bT(s:Sc):Xp->Xp
 |.mk k op n x names kids p=>
  if k=4\/k=12\/k=13 then .mk k op n (s.vars.nm x) names (lu s kids) p
  else if k=5 then .mk 4 op n (s.aS.nm x) names (lu s kids) p
  else .mk k op n x names (lu s kids) p
def lu(s:Sc):List Xp->List Xp
 |[]=>[]
 |e::l=>bT s e::lu s l
end
structure R where
 s:Sc
 m:MS
 q:List aF
def vY(s:Sc)(b:Bd):Xp:=(s.ck.drop b.jm).foldl jS (bk b.name)
def cH(r:R)(x:Nm):R:=
 match r.s.vars x with
 |none=>r
 |some b=>if b.jm=r.s.ck.length then r else
  ⟨{r.s with vars:=r.s.vars.set x ⟨nV (r.m.n+1),r.s.ck.length,b.tk,b.tn⟩},r.m.fresh (b.tk,b.tn) r.s.ck,r.q++[fG (nV (r.m.n+1)) (vY r.s b) (0,0)]⟩
def eP(r:R)(x:Nm):R:=
 match r.s.aS x with
 |none=>r
 |some b=>if b.jm=r.s.ck.length then r else
  ⟨{r.s with aS:=r.s.aS.set x ⟨nV (r.m.n+1),r.s.ck.length,b.tk,b.tn⟩},r.m.fresh (b.tk,b.tn) r.s.ck,r.q++[fG (nV (r.m.n+1)) (vY r.s b) (0,0)]⟩
def cD(r:R)(e:Xp):R:=(iC e []).foldl eP ((jT e []).foldl cH r)
def rU(en:List En)(c:Nm):Nm:=match en.find? (λt=>dh t.fh c)with|some t=>t.name|none=>⟨#[]⟩
def tg(op:Int):Int:=if op=1 then 1 else if op=2 then 2 else if 3<=op/\op<=7 then 2 else if 8<=op/\op<=16 then 1 else 0
def cQ(en:List En)(f:Nm->Int×Nm):Xp->Int×Nm
 |.mk k op _ x _ kids _=>
  if k=1 then(2,⟨#[]⟩)else if k=2 then(1,⟨#[]⟩)else if k=3 then(3,rU en x)else if k=4\/k=5 then f x
  else if k=6\/k=7 then(tg op,⟨#[]⟩)
  else match kids with
   |[]=>(0,⟨#[]⟩)
   |a::r=>if k=8 then(match r with|[]=>(0,⟨#[]⟩)|b::_=>cQ en f b)else cQ en f a
def d_(r:R)(e:Xp)(t:Int×Nm):R:=
 let r1:=cD r e
 ⟨r1.s,r1.m.fresh t r1.s.ck,r1.q++[fG (nV (r1.m.n+1)) (bT r1.s e) e.ps]⟩
def fA(r:R)(v:Va)(name:Nm):R:=
 if v.last then
  let ck:=r.s.ck++v.clock.map λo=>(o.1,r.s.vars.nm o.2)
  ⟨{r.s with aS:=r.s.aS.set v.name ⟨nV (r.m.n+1),r.s.ck.length,v.tk,v.tn⟩},r.m.fresh (v.tk,v.tn) ck,r.q++[fG (nV (r.m.n+1)) (jg v.first (bk name)) v.ps]⟩
 else r
def eQ(own:Bool)(r:R)(v:Va):R:=⟨{r.s with vars:=r.s.vars.set v.name ⟨if own then v.name else nV (r.m.n+1),r.s.ck.length,v.tk,v.tn⟩},⟨r.m.n+1,r.m.vars⟩,r.q⟩
def er(r:R)(v:Va):R:=
 fA ⟨r.s,⟨r.m.n,r.m.vars++[⟨r.s.vars.nm v.name,v.tk,v.tn,r.s.ck++v.clock.map λo=>(o.1,r.s.vars.nm o.2),false,fp,v.ps⟩]⟩,r.q⟩ v (r.s.vars.nm v.name)
def lx(own:Bool)(r:R)(vars:List Va):R:=
 vars.foldl er ((vars.flatMap λv=>v.clock.map λo=>o.2).foldl cH (vars.foldl (eQ own) r))
def di(s:Sc)(r:R)(x:Nm):R:=⟨{r.s with vars:=r.s.vars.set x ⟨nV (r.m.n+1),r.s.ck.length,(s.vars.ty x).1,(s.vars.ty x).2⟩},r.m.fresh (s.vars.ty x) r.s.ck,r.q⟩
def eg(p:Int×Int)(r:R)(x:Nm):R:=
 let r1:=eP r x
 ⟨r1.s,r1.m,r1.q++[fG (r1.s.vars.nm x) (bk (r1.s.aS.nm x)) p]⟩
structure Mg where
 names:List Nm
 vs:List Nm
def dO(r:R×List Xp)(e:Xp):R×List Xp:=(cD r.1 e,r.2++[bT (cD r.1 e).s e])
mutual
def gx(en:List En)(own:Bool):bJ->Sc->MS->MS×List aF
 |.mk vars eqs,s,m=>((eu en eqs (lx own ⟨s,m,[]⟩ vars)).m,(eu en eqs (lx own ⟨s,m,[]⟩ vars)).q)
def eu(en:List En):List aF->R->R
 |[],r=>r
 |q::l,r=>eu en l (gi en q r)
def gi(en:List En):aF->R->R
 |.mk k lhs f args has e aj p,r=>
  if k=1 then
   let r1:=cD r e
   ⟨r1.s,r1.m,r1.q++[.mk 1 (lhs.map r1.s.vars.nm) ⟨#[]⟩ [] false (bT r1.s e) [] p]⟩
  else if k=2 then
   let l0:=lhs.map r.s.vars.nm
   let r1:=args.foldl dO (r,[])
   if has then⟨(cD r1.1 e).s,(cD r1.1 e).m,(cD r1.1 e).q++[.mk 2 l0 f r1.2 true (bT (cD r1.1 e).s e) [] p]⟩
   else⟨r1.1.s,r1.1.m,r1.1.q++[.mk 2 l0 f r1.2 false fp [] p]⟩
  else if k=5 then
   let r1:=d_ r e (1,⟨#[]⟩)
   let i:=yO en aj r1.s r1.m
   ⟨r1.s,i.1,r1.q++[.mk 5 [] ⟨#[]⟩ [] false (bk (nV r1.m.n)) [.mk ⟨#[]⟩ (.mk [] i.2) [] [] (0,0)] p]⟩
  else
   let r1:=d_ r e (cQ en r.s.vars.ty e)
   let c:=nV r1.m.n
   let all:=bE lhs aj
   let z:=cd en c all aj ⟨r1.s,r1.m,r1.q⟩ []
   ⟨z.1.s,z.1.m,z.1.q++(List.range all.length).map λi=>fG (z.1.s.vars.nm (all[i]?.getD ⟨#[]⟩)) (.mk 13 0 0 c (aj.map aT.name) (z.2.map λvs=>bk (vs[i]?.getD ⟨#[]⟩)) p) p⟩
def yO(en:List En):List aT->Sc->MS->MS×List aF
 |[],s,m=>(m,[])
 |.mk _ b _ _ _::_,s,m=>gx en false b s m
def cd(en:List En)(c:Nm)(all:List Nm):List aT->R->List (List Nm)->R×List (List Nm)
 |[],r,vs=>(r,vs)
 |.mk n b _ _ p::l,r,vs=>
  let i0:R:=all.foldl (di r.s) ⟨⟨r.s.vars,r.s.aS,r.s.ck++[(n,c)]⟩,r.m,r.q⟩
  let i1:R:=(all.filter λx=> !(dh (cX b) x)).foldl (eg p) i0
  let z:=gx en false b i1.s i1.m
  cd en c all l ⟨r.s,z.1,i1.q++z.2⟩ (vs++[all.map i0.s.vars.nm])
end
def fF(r:R)(v:Va):R:=fA ⟨{r.s with vars:=r.s.vars.set v.name ⟨v.name,0,v.tk,v.tn⟩},r.m,r.q⟩ v v.name
def rG(en:List En)(d:Nd):Nd:=
 let r:=(d.ins++d.outs).foldl fF ⟨⟨λ_=>none,λ_=>none,[]⟩,⟨0,[]⟩,[]⟩
 let z:=gx en true d.b r.s r.m
 ⟨d.name,d.ins,d.outs.map λv=>⟨v.name,v.tk,v.tn,v.clock,false,fp,v.ps⟩,.mk z.1.vars (r.q++z.2),d.ps⟩
def Eg(p:Pg):Pg:=⟨p.ao,p.nodes.map (rG p.ao)⟩
end Go.Ps
namespace Go.Proofs
open Go.Shelf
open Tryz
def Tryz.uj:Go.Shelf.Ren:=⟨λ|171=>212|243=>254|246=>289|283=>303|284=>304|285=>305|286=>306|129=>250|317=>308|318=>309|319=>310|320=>311|337=>314|338=>315|n=>n,λ|3=>3|9=>9|2=>2|4=>4|171=>377|0=>0|53=>341|37=>22|5=>5|173=>379|212=>386|51=>339|20=>20|213=>387|46=>300|232=>401|233=>402|n=>n,λ|17=>0|18=>1|19=>2|n=>n⟩
theorem Tryz.AV:Go.Proofs.LaysM.n171 prog Tryz.uj:={
 mixed:=by kernel_rfl
 f129:=func250.trans (congrArg some (by kernel_rfl))
 f171:=func212.trans (congrArg some (by kernel_rfl))
 f243:=func254.trans (congrArg some (by kernel_rfl))
 f246:=func289.trans (congrArg some (by kernel_rfl))
 f283:=func303.trans (congrArg some (by kernel_rfl))
 f284:=func304.trans (congrArg some (by kernel_rfl))
 f285:=func305.trans (congrArg some (by kernel_rfl))
 f286:=func306.trans (congrArg some (by kernel_rfl))
 f317:=func308.trans (congrArg some (by kernel_rfl))
 f318:=func309.trans (congrArg some (by kernel_rfl))
 f319:=func310.trans (congrArg some (by kernel_rfl))
 f320:=func311.trans (congrArg some (by kernel_rfl))
 f337:=func314.trans (congrArg some (by kernel_rfl))
 f338:=func315.trans (congrArg some (by kernel_rfl))
 t0:=underlying0
 a0:=Tryz.isAgg0
 z0:=Tryz.sizeOf0
 v0:=Tryz.zeroValue0
 t2:=underlying2
 a2:=Tryz.isAgg2
 z2:=Tryz.sizeOf2
 v2:=Tryz.zeroValue2
 t3:=underlying3
 a3:=Tryz.isAgg3
 z3:=Tryz.sizeOf3
 v3:=Tryz.zeroValue3
 t4:=underlying4
 a4:=Tryz.isAgg4
 z4:=Tryz.sizeOf4
 v4:=Tryz.zeroValue4
 t5:=underlying5
 a5:=Tryz.isAgg5
 z5:=Tryz.sizeOf5
 v5:=Tryz.zeroValue5
 t9:=underlying9
 a9:=Tryz.isAgg9
 z9:=Tryz.sizeOf9
 v9:=Tryz.zeroValue9
 t20:=underlying20
 a20:=Tryz.isAgg20
 z20:=Tryz.sizeOf20
 v20:=Tryz.zeroValue20
 t37:=underlying22
 a37:=Tryz.isAgg22
 z37:=Tryz.sizeOf22
 v37:=Tryz.zeroValue22
 t46:=underlying300
 a46:=Tryz.isAgg300
 z46:=Tryz.sizeOf300
 v46:=Tryz.zeroValue300
 t51:=underlying339
 a51:=Tryz.isAgg339
 z51:=Tryz.sizeOf339
 v51:=Tryz.zeroValue339
 t53:=underlying341
 a53:=Tryz.isAgg341
 z53:=Tryz.sizeOf341
 v53:=Tryz.zeroValue341
 t171:=underlying377
 a171:=Tryz.isAgg377
 z171:=Tryz.sizeOf377
 v171:=Tryz.zeroValue377
 t173:=underlying379
 a173:=Tryz.isAgg379
 z173:=Tryz.sizeOf379
 v173:=Tryz.zeroValue379
 t212:=underlying386
 a212:=Tryz.isAgg386
 z212:=Tryz.sizeOf386
 v212:=Tryz.zeroValue386
 t213:=underlying387
 a213:=Tryz.isAgg387
 z213:=Tryz.sizeOf387
 t232:=underlying401
 a232:=Tryz.isAgg401
 z232:=Tryz.sizeOf401
 v232:=Tryz.zeroValue401
 t233:=underlying402
 a233:=Tryz.isAgg402
 z233:=Tryz.sizeOf402
 v233:=Tryz.zeroValue402
 g17:=by kernel_rfl
 g18:=by kernel_rfl
 g19:=by kernel_rfl
 i0:=by kernel_rfl
 i2:=by kernel_rfl
 i3:=by kernel_rfl
 i4:=by kernel_rfl
 i5:=by kernel_rfl
 i9:=by kernel_rfl
 i20:=by kernel_rfl
 i37:=by kernel_rfl
 i46:=by kernel_rfl
 i51:=by kernel_rfl
 i53:=by kernel_rfl
 i171:=by kernel_rfl
 i173:=by kernel_rfl
 i212:=by kernel_rfl
 i232:=by kernel_rfl
 i233:=by kernel_rfl
 m17:=by kernel_rfl
 m18:=by kernel_rfl
 m19:=by kernel_rfl}
open Go.RowKit Go.Sort Go.Lib in
theorem Tryz.strconv_Itoa(n:Int)(h0: -9223372036854775808<=n)(h1:n<=9223372036854775807)(w:World)(MX:Lib.TabIs prog w "internal/strconv.uint64pow10" .u64 Lib.pow10Tab):
  Calls prog 212 #[.int .i64 n] w λe w'=>e=.returned (.string ⟨(Lib.itoa n).toArray⟩)/\∃k os,w'=grow (w.drewN k) os:=Any.strconv_Itoa Tryz.AV n h0 h1 w MX
end Go.Proofs
namespace Go.Proofs
open Go.Mt
open Tryz
instance:s_ prog 31 1 29 1:=⟨by kernel_rfl⟩
instance:s_ prog 42 3 9 3:=⟨by kernel_rfl⟩
instance:s_ prog 261 0 9 0:=⟨by kernel_rfl⟩
instance:s_ prog 261 2 53 2:=⟨by kernel_rfl⟩
instance:BZ prog 311 3 9:=⟨by kernel_rfl⟩
end Go.Proofs
namespace Go.Sm
open Go.Mt
theorem Va.ai(v:Va):v.cells=[.str v.name,.int .u8 v.tk,.str v.tn,.sl (bN v.clock),.bool v.last,.int .u8 v.first.kd,.int .u8 v.first.op,.int .i32 v.first.num,.str v.first.nm,.sl (aU v.first.names),.sl (v.first.kids.map Xp.cells),.int .i64 v.first.ps.1,.int .i64 v.first.ps.2,.int .i64 v.ps.1,.int .i64 v.ps.2]:=by unfold Va.cells;rw[v.first.ai];rfl
abbrev rH(q:aF):List D:=[.int .u8 q.kd,.sl (aU q.lhs),.str q.f,.sl (q.args.map Xp.cells),.bool q.has,.int .u8 q.ex.kd,.int .u8 q.ex.op,.int .i32 q.ex.num,.str q.ex.nm,.sl (aU q.ex.names),.sl (q.ex.kids.map Xp.cells),.int .i64 q.ex.ps.1,.int .i64 q.ex.ps.2,.sl (q.aj.map aT.cells),.int .i64 q.ps.1,.int .i64 q.ps.2]
theorem aF.ly(q:aF):q.cells=rH q:=by rw[q.ai,q.ex.ai];rfl
theorem Tr.ai(t:Tr):t.cells=[.int .u8 t.e.kd,.int .u8 t.e.op,.int .i32 t.e.num,.str t.e.nm,.sl (aU t.e.names),.sl (t.e.kids.map Xp.cells),.int .i64 t.e.ps.1,.int .i64 t.e.ps.2,.str t.to,.bool t.xm,.int .i64 t.ps.1,.int .i64 t.ps.2]:=by unfold Tr.cells;rw[t.e.ai];rfl
theorem mT(l:List Va):(aJ l).length=l.length:=by simp[aJ]
theorem fP(l:List Va):∀r∈aJ l,r.length=15:=by intro r hr;obtain⟨_,_,rfl⟩:=List.mem_map.1 hr;exact Va.len _
theorem ql(a b:List Va):aJ (a++b)=aJ a++aJ b:=by simp[aJ]
end Go.Sm
namespace Go.Ps
open Go.Mt Go.Sm
theorem pj(n:Nat)(h:n<=1000000000):(dg n).size<=21:=by
 have:=Lib.itoa_length_le (n:Int) (by omega) (by omega);rw[Lib.itoa_nonneg]at this;exact this
theorem AW(c:UInt8)(n:Nat)(h:n<=1000000000):(rE c n).size<=23:=by
 have:=pj n h;unfold rE;rw[ByteArray.size_append];have e:(⟨#[95,c]⟩:ByteArray).size=2:=rfl;omega
end Go.Ps
namespace Go.Mt
theorem z6{X:bq}{ops:Array Oper}{rest:List Oper}{sl:List (Nat×V)}{bx:List (Nat×List M)}{H:Hp}{FQ:List Ef->St->Prop}{d ty:Nat}{pos:String}{af:Array Edge}{F0:Nat->Prop}{H0:Hp}{r:List As}{T e n nb:Nat}{x y:Operand}{m:M}{rs rows:List (List D)}{z:D}[ht:aL X.P T e][hs:bh X.P e n][hb:gp X.P e nb][hz:dt X.P e z](w:Wk F0 H0 (.acc n rs m::r) H)(hn:Nat.blt d X.n=true)(hx:ba sl x=some (.m m))(hy:ba sl y=some (.m (.d (.sl rows))))
  (h0:Nat.blt 0 n=true) (Ga:(aN z).length=n) (HN:Nat.ble nb 1000=true) (FV:rows≠[]) (hl:∀r∈rows,r.length=n) (FZ:rs.length+rows.length<=100000000000)
  (k:TF X ops rest ⟨(d,.m (dT m H rows))::sl,bx,fo n m H rows⟩ λes zz=>FQ (⟨some d,.m (dT m H rows),[],[],none,true,some (fo n m H rows)⟩::es) zz):TF X ops (⟨some d,.call ⟨.builtin .append,#[x,y],#[T,T]⟩,ty,pos,af,none⟩::rest) ⟨sl,bx,H⟩ FQ:=by
 have h1:=Nat.le_of_ble_eq_true HN;have h2:=Nat.mul_le_mul FZ h1;obtain⟨i,IN⟩:=w.uL;rcases IN with⟨rfl,rfl⟩|⟨h3,FD,rfl,h4⟩
 ·cases rows with
  |nil=>exact absurd rfl FV
  |cons q t=>exact nY true hn hx hy h0 Ga (by simp) hl (by simp only[List.length_nil,Nat.zero_add]at h2;omega) k
 ·refine k_ hn hx hy h4 Ga hl (by omega) (by omega) ?_;simp only[dT,fo,h4]at k;exact k
theorem xv:∀{cs:List M} {ds:List D},cT cs=some ds->cs=ds.map M.d
 |[],ds,h=>by simp[cT]at h;subst h;rfl
 |.d x::r,ds,h=>by
  simp only[cT,Option.map_eq_some_iff]at h;obtain⟨l,h1,rfl⟩:=h;rw[xv h1];rfl
 |.ref _ _::r,ds,h=>by cases h
 |.bB _ _ _::r,ds,h=>by cases h
 |.bG _ _ _::r,ds,h=>by cases h
 |.mp _::r,ds,h=>by cases h
 |.it _::r,ds,h=>by cases h
 |.agg _::r,ds,h=>by cases h
 |.fn _ _::r,ds,h=>by cases h
 |.bz _::r,ds,h=>by cases h
 |.undef::r,ds,h=>by cases h
theorem uU:∀ds:List D,kE ds=some (ds.map M.d)
 |[]=>rfl
 |d::l=>by unfold kE;rw[uU l];rfl
theorem fX(cs:List M):dJ (pack cs)=some cs:=by
 unfold pack;split
 ·rename_i ds h;show kE ds=_;rw[uU,<-xv h]
 ·rfl
theorem uV{X:bq}{ops:Array Oper}{rest:List Oper}{sl:List (Nat×V)}{bx:List (Nat×List M)}{H:Hp}{FQ:List Ef->St->Prop}{d ty:Nat}{pos:String}{af:Array Edge}{T:Nat}{parts:List (Nat×Operand)}{ps:List (Nat×Nat)}{z:List D}{zs:List M}{ms:List (Nat×M)}{cs:List M}[ht:cp X.P T ps z](hn:Nat.blt d X.n=true)(he:eW sl parts=some ms)(hz:kE z=some zs)
  (hf:gU ps zs ms=some cs) (k:TF X ops rest ⟨(d,.m (pack cs))::sl,bx,H⟩ λes zz=>FQ (⟨some d,.m (pack cs),[],[],none,false,none⟩::es) zz):TF X ops (⟨some d,.build T parts.toArray,ty,pos,af,none⟩::rest) ⟨sl,bx,H⟩ FQ:=by
 refine TF.cons (e:=⟨some d,.m (pack cs),[],[],none,false,none⟩) (bK.quiet rfl rfl (aQ hn) λFE ag=>?_) rfl k;exact kD (X:=X) (dst:=some d) (ty:=ty) (pos:=pos) (af:=af) (g:=none) (st:=FE) (T:=T) (parts:=parts) (ms:=ms) (by rw[ag.bZ (λp hp=>by simp[Op.operands];exact⟨_,hp⟩),eF];exact he) (by rw[<-kF hz];exact jp hf)
theorem mU{X:bq}{ops:Array Oper}{rest:List Oper}{sl:List (Nat×V)}{bx:List (Nat×List M)}{H:Hp}{post:St->Prop}{d ty:Nat}{pos:String}{af:Array Edge}{T:Nat}{parts:List (Nat×Operand)}{ps:List (Nat×Nat)}{z:List D}{zs:List M}{ms:List (Nat×M)}{cs:List M}[ht:cp X.P T ps z](hn:Nat.blt d X.n=true)(he:eW sl parts=some ms)(hz:kE z=some zs)
  (hf:gU ps zs ms=some cs) (k:TL X ops rest ⟨(d,.m (pack cs))::sl,bx,H⟩ post):TL X ops (⟨some d,.build T parts.toArray,ty,pos,af,none⟩::rest) ⟨sl,bx,H⟩ post:=
 TL.o1 rfl rfl hn (kD (X:=X) (dst:=some d) (ty:=ty) (pos:=pos) (af:=af) (g:=none) (st:=⟨sl,bx,H⟩) (T:=T) (by rw[eF];exact he) (by rw[<-kF hz];exact jp hf)) k
theorem Wk.Ch{F0:Nat->Prop}{H0 H:Hp}{r:List As}{n:Nat}{rs:List (List D)}{m:M}(w:Wk F0 H0 (.acc n rs m::r) H):dJ m=some [m]:=by
 obtain⟨i,h⟩:=w.uL;rcases h with⟨_,rfl⟩|⟨_,FD,rfl,_⟩<;>rfl
theorem bb.vZ{X:bq}{σ:Sg}{FC:Nat->Nat}{st:St}{a:Act}(hi:bb X σ FC st a){i:Nat}{cs FG:List M}(hH:st.H[i]?=some (.box cs))(hv:c_ st.H cs=some FG):∃τ:Sg,τ.w=σ.w/\bb X τ FC ⟨st.sl,st.bx,st.H.set i (.box FG)⟩ a:=by
 obtain⟨arr,T,h3,h4⟩:=hi.hinv.obj i (.box cs) (by rw[hi.hH];exact hH);have h5:=h4.view hi.hinv (by rw[hi.hH];exact hv);obtain⟨τ,k1,k2,k3,k4,k5⟩:=hi.eU (j:=i) (b':=σ.l i) (ob:=.box cs) (F_:=.box FG) (w':=σ.w) hH trivial rfl rfl rfl (Nat.le_refl _)
  (λ_ _ _=>rfl) (.inl rfl) (λo v ho=>(ho trivial).elim) rfl (by
   intro τ hm hw _ _;exact⟨arr,T,by rw[hw];exact h3,h5.mono hm⟩)
 exact⟨τ,k1,k5⟩
theorem DC.vZ{P:Program}{n B:Nat}{post:Exit->St->Prop}{c:Code}{sl:List (Nat×V)}{bx:List (Nat×List M)}{H:Hp}(i:Nat){cs FG:List M}(hH:H[i]?=some (.box cs))(hv:c_ H cs=some FG)(k:DC P n B c ⟨sl,bx,H.set i (.box FG)⟩ post):DC P n B c ⟨sl,bx,H⟩ post:=
 DC.fN _ (λ_ _ _ a w ⟨σ,FC,hw,hi⟩=>by
  obtain⟨τ,h1,h2⟩:=hi.vZ hH hv;exact⟨τ,FC,h1.trans hw,h2⟩) k
theorem xw{x y:List D}{n:Nat}(h:x.length=n)(h2:y.length=n):∀r∈[x,y],r.length=n:=by
 intro r hr;rcases List.mem_cons.1 hr with rfl|hr
 ·exact h
 ·rw[List.mem_singleton]at hr;rw[hr];exact h2
theorem CT.Eh{P:Program}{f:Nat}{ds rs:List D}{H:Hp}(h:PT P f ds (·=rs)):CT P f (ds.map .d) H λr k=>r=fD (rs.map .d)/\k=H:=
 (CT.D3 h).mono λr k ⟨⟨d,h1,h2⟩,h3⟩=>⟨by rw[h1,h2],h3⟩
theorem z7{X:bq}{ops:Array Oper}{rest:List Oper}{sl:List (Nat×V)}{bx:List (Nat×List M)}{H:Hp}{post:St->Prop}{d ty:Nat}{pos:String}{af:Array Edge}{T len e n:Nat}{parts:List (Nat×Operand)}{z:List D}{ms:List (Nat×M)}{cs:List M}{ds:List D}[hu:BZ X.P T len e][hs:bh X.P e n][hz:dt X.P T (.agg z)](hn:Nat.blt d X.n=true)(he:eW sl parts=some ms)
  (hf:dE (λi=>some (i*n,n)) (z.map .d) ms=some cs) (hd:cT cs=some ds) (k:TL X ops rest ⟨(d,.m (.d (.agg ds)))::sl,bx,H⟩ post):TL X ops (⟨some d,.build T parts.toArray,ty,pos,af,none⟩::rest) ⟨sl,bx,H⟩ post:=
 xg hn hu.u hz.zero he hf hd k
theorem qm(H:Hp):c_ H []=some []:=rfl
theorem db{H:Hp}{d:D}{r ms:List M}(h2:c_ H r=some ms):c_ H (.d d::r)=some (.d d::ms):=by simp only[c_,dV,h2]
theorem pk{H:Hp}{m:M}{d:D}{r ms:List M}(h:dV H m=some d)(h2:c_ H r=some ms):c_ H (m::r)=some (.d d::ms):=by simp only[c_,h,h2]
end Go.Mt
namespace Go.Proofs.Pz
open Go.Mt Go.Sm Go.Ps Go.Proofs
open Tryz
theorem mixed:prog.follows .mixedOrders=true:=by kernel_rfl
instance:bp prog 212:=sY (by kernel_rfl)
abbrev bm(l:List aF):List (List D):=l.map aF.cells
theorem cg(l:List aF):∀r∈bm l,r.length=16:=by intro r hr;obtain⟨_,_,rfl⟩:=List.mem_map.1 hr;exact aF.len _
theorem qn(l:List aT):∀r∈l.map aT.cells,r.length=7:=by intro r hr;obtain⟨_,_,rfl⟩:=List.mem_map.1 hr;exact aT.len _
theorem et(l:List Nm):∀r∈aU l,r.length=1:=by intro r hr;obtain⟨_,_,rfl⟩:=List.mem_map.1 hr;rfl
theorem iD(l:List (Nm×Nm)):∀r∈bN l,r.length=2:=by intro r hr;obtain⟨_,_,rfl⟩:=List.mem_map.1 hr;rfl
theorem yP(l:List aF)(hl:l.length<=100000000):Dt prog 219 [.d (.sl (bm l))] [] λr l'=>l'=[.acc 16 (bm l) r]:=by
 intro H F hs;have w:=Wk.start hs;cases l with
 |nil=>
  refine⟨.d (.sl []),H,⟨_,rfl,w.nil 16⟩,?_⟩;refine CT.aG func219 rfl ntmps219 rfl λs0 Oo=>?_
  repeat refine TC.seq ?_
  refine TC.region ?_;refine aa rfl rfl ?_;refine TL.nil ?_
  repeat refine TC.seq ?_
  refine TC.region ?_;refine ah rfl rfl ?_
  (refine kn rfl rfl (λb=>?_))
  refine TL.nil ?_;cases b with
  |true=>
   repeat refine TC.seq ?_
   refine TC.cond rfl (λhc=>?_) (λhc=>by cases hc)
   repeat refine TC.seq ?_
   refine TC.region ?_;refine aa rfl rfl ?_;refine TL.nil ?_;exact TC.ret ⟨_,rfl,rfl,rfl⟩
  |false=>
   repeat refine TC.seq ?_
   refine TC.cond rfl (λhc=>by cases hc) (λhc=>?_);refine TC.skip ?_
   repeat refine TC.seq ?_
   refine TC.region ?_;refine aD rfl rfl rfl rfl rfl rfl rfl rfl ?_;refine ah rfl rfl ?_;refine dC rfl rfl rfl ?_;refine aa rfl rfl ?_;refine TL.nil ?_;exact TC.ret ⟨_,rfl,rfl,rfl⟩
 |cons a l=>
  refine⟨_,_,⟨_,rfl,(w.nil 16).app (bm (a::l))⟩,?_⟩;refine CT.aG func219 rfl ntmps219 rfl λs0 Oo=>?_
  repeat refine TC.seq ?_
  refine TC.region ?_;refine aa rfl rfl ?_;refine TL.nil ?_
  repeat refine TC.seq ?_
  refine TC.region ?_;refine ah rfl rfl ?_;refine pe rfl (by kernel_rfl) rfl ?_;refine TL.nil ?_
  repeat refine TC.seq ?_
  refine TC.cond rfl (λhc=>by cases hc) (λhc=>?_);refine TC.skip ?_
  repeat refine TC.seq ?_
  refine TC.region ?_;refine aD rfl rfl rfl rfl rfl rfl rfl rfl ?_;refine ah rfl rfl ?_;refine jL true rfl rfl rfl rfl (by rfl) (by simp[bm]) (by exact cg (a::l)) (by simp[bm]at hl⊢;omega) ?_;refine aa rfl rfl ?_;refine TL.nil ?_;exact TC.ret ⟨_,rfl,rfl,rfl⟩
theorem yQ(l:List Va)(hl:l.length<=100000000):Dt prog 60 [.d (.sl (aJ l))] [] λr l'=>l'=[.acc 15 (aJ l) r]:=by
 intro H F hs;have w:=Wk.start hs;cases l with
 |nil=>
  refine⟨.d (.sl []),H,⟨_,rfl,w.nil 15⟩,?_⟩;refine CT.aG func60 rfl ntmps60 rfl λs0 Oo=>?_
  repeat refine TC.seq ?_
  refine TC.region ?_;refine aa rfl rfl ?_;refine TL.nil ?_
  repeat refine TC.seq ?_
  refine TC.region ?_;refine ah rfl rfl ?_
  (refine kn rfl rfl (λb=>?_))
  refine TL.nil ?_;cases b with
  |true=>
   repeat refine TC.seq ?_
   refine TC.cond rfl (λhc=>?_) (λhc=>by cases hc)
   repeat refine TC.seq ?_
   refine TC.region ?_;refine aa rfl rfl ?_;refine TL.nil ?_;exact TC.ret ⟨_,rfl,rfl,rfl⟩
  |false=>
   repeat refine TC.seq ?_
   refine TC.cond rfl (λhc=>by cases hc) (λhc=>?_);refine TC.skip ?_
   repeat refine TC.seq ?_
   refine TC.region ?_;refine aD rfl rfl rfl rfl rfl rfl rfl rfl ?_;refine ah rfl rfl ?_;refine dC rfl rfl rfl ?_;refine aa rfl rfl ?_;refine TL.nil ?_;exact TC.ret ⟨_,rfl,rfl,rfl⟩
 |cons a l=>
  refine⟨_,_,⟨_,rfl,(w.nil 15).app (aJ (a::l))⟩,?_⟩;refine CT.aG func60 rfl ntmps60 rfl λs0 Oo=>?_
  repeat refine TC.seq ?_
  refine TC.region ?_;refine aa rfl rfl ?_;refine TL.nil ?_
  repeat refine TC.seq ?_
  refine TC.region ?_;refine ah rfl rfl ?_;refine pe rfl (by kernel_rfl) rfl ?_;refine TL.nil ?_
  repeat refine TC.seq ?_
  refine TC.cond rfl (λhc=>by cases hc) (λhc=>?_);refine TC.skip ?_
  repeat refine TC.seq ?_
  refine TC.region ?_;refine aD rfl rfl rfl rfl rfl rfl rfl rfl ?_;refine ah rfl rfl ?_;refine jL true rfl rfl rfl rfl (by rfl) (by simp[aJ]) (by exact fP (a::l)) (by simp[aJ]at hl⊢;omega) ?_;refine aa rfl rfl ?_;refine TL.nil ?_;exact TC.ret ⟨_,rfl,rfl,rfl⟩
theorem th(l:List (Nm×Nm))(hl:l.length<=100000000):Dt prog 175 [.d (.sl (bN l))] [] λr l'=>l'=[.acc 2 (bN l) r]:=by
 intro H F hs;have w:=Wk.start hs;cases l with
 |nil=>
  refine⟨.d (.sl []),H,⟨_,rfl,w.nil 2⟩,?_⟩;refine CT.aG func175 rfl ntmps175 rfl λs0 Oo=>?_
  repeat refine TC.seq ?_
  refine TC.region ?_;refine aa rfl rfl ?_;refine TL.nil ?_
  repeat refine TC.seq ?_
  refine TC.region ?_;refine ah rfl rfl ?_
  (refine kn rfl rfl (λb=>?_))
  refine TL.nil ?_;cases b with
  |true=>
   repeat refine TC.seq ?_
   refine TC.cond rfl (λhc=>?_) (λhc=>by cases hc)
   repeat refine TC.seq ?_
   refine TC.region ?_;refine aa rfl rfl ?_;refine TL.nil ?_;exact TC.ret ⟨_,rfl,rfl,rfl⟩
  |false=>
   repeat refine TC.seq ?_
   refine TC.cond rfl (λhc=>by cases hc) (λhc=>?_);refine TC.skip ?_
   repeat refine TC.seq ?_
   refine TC.region ?_;refine aD rfl rfl rfl rfl rfl rfl rfl rfl ?_;refine ah rfl rfl ?_;refine dC rfl rfl rfl ?_;refine aa rfl rfl ?_;refine TL.nil ?_;exact TC.ret ⟨_,rfl,rfl,rfl⟩
 |cons a l=>
  refine⟨_,_,⟨_,rfl,(w.nil 2).app (bN (a::l))⟩,?_⟩;refine CT.aG func175 rfl ntmps175 rfl λs0 Oo=>?_
  repeat refine TC.seq ?_
  refine TC.region ?_;refine aa rfl rfl ?_;refine TL.nil ?_
  repeat refine TC.seq ?_
  refine TC.region ?_;refine ah rfl rfl ?_;refine pe rfl (by kernel_rfl) rfl ?_;refine TL.nil ?_
  repeat refine TC.seq ?_
  refine TC.cond rfl (λhc=>by cases hc) (λhc=>?_);refine TC.skip ?_
  repeat refine TC.seq ?_
  refine TC.region ?_;refine aD rfl rfl rfl rfl rfl rfl rfl rfl ?_;refine ah rfl rfl ?_;refine jL true rfl rfl rfl rfl (by rfl) (by simp[bN]) (by exact iD (a::l)) (by simp[bN]at hl⊢;omega) ?_;refine aa rfl rfl ?_;refine TL.nil ?_;exact TC.ret ⟨_,rfl,rfl,rfl⟩
abbrev aZ:Ob:=.iter (sJ 0 386 .u64 Lib.pow10Tab)
theorem tj{H:Hp}{i n:Nat}(hn:n<=1000000000)(hH:H[i]?=some aZ):CT prog 212 [.d (.int .i64 ((n:Nat):Int))] H λr K=>r=.d (.str (dg n))/\K=H:=by
 intro σ Oo vs hinv Ki Gk;obtain⟨hb,hc⟩:=l3 (hinv.obj i aZ (by rw[Ki];exact hH));have MX:Lib.TabIs prog σ.w "internal/strconv.uint64pow10" .u64 Lib.pow10Tab:=by
  unfold Lib.TabIs World.var?;rw[show prog.globalNamed "internal/strconv.uint64pow10" =some 0 by kernel_rfl];simp[hc]
 have GR:vs= #[.int .i64 ((n:Nat):Int)]:=by
  obtain⟨hl,h⟩:=Gk;obtain⟨l⟩:=vs
  match l,hl with
  |[a],_=>
   have h1:=h 0 _ a rfl rfl;cases h1 with
   |d h1=>cases h1;rfl
 subst GR;refine(Tryz.strconv_Itoa ((n:Nat):Int) (by omega) (by omega) σ.w MX).mono ?_;rintro e w' ⟨rfl,k,os,rfl⟩;have hx:dq σ.w (Sort.grow (σ.w.drewN k) os):=by
  refine⟨rfl,rfl,rfl,?_,?_⟩
  ·simp[Sort.grow,World.drewN]
  ·intro b hb;simp[Sort.grow,World.drewN,Array.getElem?_append_left hb]
 refine⟨_,_,{σ with w:=Sort.grow (σ.w.drewN k) os},rfl,rfl,⟨rfl,Ki⟩,hinv.ext hx,?_,bO.ext hx,bJ.ext hx⟩;rw[Lib.itoa_nonneg];exact .d (.str _)
theorem e9(s:Nm):PT prog 173 [.str s] (·=[.agg (bk s).cells]):=by
 rw[Xp.ai];refine PT.du (CT.aG func173 rfl ntmps173 rfl λs0 Oo=>?_)
 repeat refine TC.seq ?_
 refine TC.region ?_;refine aM rfl rfl ?_;refine TL.nil ?_
 repeat refine TC.seq ?_
 refine TC.region ?_;refine ah rfl rfl ?_;refine bH rfl rfl rfl rfl rfl ?_;refine av rfl rfl rfl rfl rfl rfl ?_;refine TL.nil ?_;exact TC.ret ⟨_,rfl,[_],rfl,rfl⟩
theorem AX(s:Nm):PT prog 76 [.str s] (·=[.agg (fy s).cells]):=by
 rw[Xp.ai];refine PT.du (CT.aG func76 rfl ntmps76 rfl λs0 Oo=>?_)
 repeat refine TC.seq ?_
 refine TC.region ?_;refine aM rfl rfl ?_;refine TL.nil ?_
 repeat refine TC.seq ?_
 refine TC.region ?_;refine ah rfl rfl ?_;refine bH rfl rfl rfl rfl rfl ?_;refine av rfl rfl rfl rfl rfl rfl ?_;refine TL.nil ?_;exact TC.ret ⟨_,rfl,[_],rfl,rfl⟩
theorem qo(b:Bool):PT prog 74 [.bool b] (·=[.agg (iB b).cells]):=by
 rw[Xp.ai];refine PT.du (CT.aG func74 rfl ntmps74 rfl λs0 Oo=>?_);cases b with
 |true=>
  repeat refine TC.seq ?_
  refine TC.region ?_;refine aM rfl rfl ?_;refine TL.nil ?_
  repeat refine TC.seq ?_
  refine TC.region ?_;refine ah rfl rfl ?_;refine TL.nil ?_
  repeat refine TC.seq ?_
  refine TC.cond rfl (λhc=>?_) (λhc=>by cases hc)
  repeat refine TC.seq ?_
  refine TC.region ?_;refine bH rfl rfl rfl rfl rfl ?_;refine av rfl rfl rfl rfl rfl rfl ?_;refine TL.nil ?_;exact TC.ret ⟨_,rfl,[_],rfl,rfl⟩
 |false=>
  repeat refine TC.seq ?_
  refine TC.region ?_;refine aM rfl rfl ?_;refine TL.nil ?_
  repeat refine TC.seq ?_
  refine TC.region ?_;refine ah rfl rfl ?_;refine TL.nil ?_
  repeat refine TC.seq ?_
  refine TC.cond rfl (λhc=>by cases hc) (λhc=>?_);refine TC.skip ?_
  repeat refine TC.seq ?_
  refine TC.region ?_;refine bH rfl rfl rfl rfl rfl ?_;refine av rfl rfl rfl rfl rfl rfl ?_;refine TL.nil ?_;exact TC.ret ⟨_,rfl,[_],rfl,rfl⟩
theorem AY(e:Xp)(o:Nm×Nm):PT prog 226 [.agg e.cells,.agg [.str o.1,.str o.2]] (·=[.agg (jS e o).cells]):=by
 have h1:(jS e o).cells=gw 12 0 0 o.2 [o.1] [e.cells] (0,0):=by rw[Xp.ai];rfl
 rw[h1,e.ai];refine PT.du (CT.aG func226 rfl ntmps226 rfl λs0 Oo=>?_)
 repeat refine TC.seq ?_
 refine TC.region ?_;refine b_ rfl rfl ?_;refine b_ rfl rfl ?_;refine aM rfl rfl ?_;refine TL.nil ?_
 repeat refine TC.seq ?_
 refine TC.region ?_;refine az rfl rfl ?_;refine ax rfl rfl rfl ?_;refine az rfl rfl ?_;refine ax rfl rfl rfl ?_;refine aD rfl rfl rfl rfl rfl rfl rfl rfl ?_;refine aW rfl rfl rfl ?_;refine aD rfl rfl rfl rfl rfl rfl rfl rfl ?_;refine bH rfl rfl rfl rfl rfl ?_;refine av rfl rfl rfl rfl rfl rfl ?_;refine TL.nil ?_;exact TC.ret ⟨_,rfl,[_],rfl,rfl⟩
theorem z8(c e:Xp):PT prog 220 [.agg c.cells,.agg e.cells] (·=[.agg (jg c e).cells]):=by
 have h1:(jg c e).cells=gw 9 0 0 ⟨#[]⟩ [] [c.cells,e.cells] (0,0):=by rw[Xp.ai];rfl
 rw[h1,c.ai,e.ai];refine PT.du (CT.aG func220 rfl ntmps220 rfl λs0 Oo=>?_)
 repeat refine TC.seq ?_
 refine TC.region ?_;refine b_ rfl rfl ?_;refine b_ rfl rfl ?_;refine aM rfl rfl ?_;refine TL.nil ?_
 repeat refine TC.seq ?_
 refine TC.region ?_;refine aW rfl rfl rfl ?_;refine aW rfl rfl rfl ?_;refine aD rfl rfl rfl rfl rfl rfl rfl rfl ?_;refine bH rfl rfl rfl rfl rfl ?_;refine av rfl rfl rfl rfl rfl rfl ?_;refine TL.nil ?_;exact TC.ret ⟨_,rfl,[_],rfl,rfl⟩
abbrev EQ(p:Int×Int):List D:=[.int .i64 p.1,.int .i64 p.2]
theorem cI(x:Nm)(e:Xp)(p:Int×Int):(fG x e p).cells=dN 1 [x] ⟨#[]⟩ [] false (gw e.kd e.op e.num e.nm e.names (e.kids.map Xp.cells) e.ps) [] p:=by rw[aF.cells,e.ai];rfl
theorem jt(x:Nm)(e:Xp)(p:Int×Int):PT prog 218 [.str x,.agg e.cells,.agg (EQ p)] (·=[.agg (fG x e p).cells]):=by
 rw[cI,e.ai];refine PT.du (CT.aG func218 rfl ntmps218 rfl λs0 Oo=>?_)
 repeat refine TC.seq ?_
 refine TC.region ?_;refine b_ rfl rfl ?_;refine b_ rfl rfl ?_;refine aM rfl rfl ?_;refine TL.nil ?_
 repeat refine TC.seq ?_
 refine TC.region ?_;refine ah rfl rfl ?_;refine aD rfl rfl rfl rfl rfl rfl rfl rfl ?_;refine aW rfl rfl rfl ?_;refine aW rfl rfl rfl ?_;refine bH rfl rfl rfl rfl rfl ?_;refine av rfl rfl rfl rfl rfl rfl ?_;refine TL.nil ?_;exact TC.ret ⟨_,rfl,[_],rfl,rfl⟩
theorem kQ(x:Nm)(e:Xp)(p:Int×Int):PT prog 211 [.str x,.agg e.cells,.agg (EQ p)] (·=[.agg (fG x e p).cells]):=by
 rw[cI,e.ai];refine PT.du (CT.aG func211 rfl ntmps211 rfl λs0 Oo=>?_)
 repeat refine TC.seq ?_
 refine TC.region ?_;refine b_ rfl rfl ?_;refine b_ rfl rfl ?_;refine aM rfl rfl ?_;refine TL.nil ?_
 repeat refine TC.seq ?_
 refine TC.region ?_;refine ah rfl rfl ?_;refine aD rfl rfl rfl rfl rfl rfl rfl rfl ?_;refine aW rfl rfl rfl ?_;refine aW rfl rfl rfl ?_;refine bH rfl rfl rfl rfl rfl ?_;refine av rfl rfl rfl rfl rfl rfl ?_;refine TL.nil ?_;exact TC.ret ⟨_,rfl,[_],rfl,rfl⟩
abbrev lz(k:Nat):List D:=[.str (nT k),.str (nS k),.str (nR k),.str (nA k),.str (nB k),.str (nN k),.str (nM k)]
theorem iS(k:Nat)(s:Nm)(hk:k<=1000000000)(hs:s.size<=1000000000):PT prog 216 [.agg (lz k),.str s] (·=[.agg (fy (fx k s)).cells]):=by
 have h1:(nT k).size<=23:=AW 84 k hk;have h2:(nT k++⟨#[95]⟩:ByteArray).size<=24:=by rw[ByteArray.size_append];have:(⟨#[95]⟩:ByteArray).size=1:=rfl;omega
 have h3:(⟨#[95]⟩:ByteArray).size=1:=rfl;have hc:=AX (fx k s);rw[Xp.ai]at hc⊢;unfold fx at hc⊢;refine PT.du (CT.aG func216 rfl ntmps216 rfl λs0 Oo=>?_)
 repeat refine TC.seq ?_
 refine TC.region ?_;refine b_ rfl rfl ?_;refine aM rfl rfl ?_;refine TL.nil ?_
 repeat refine TC.seq ?_
 refine TC.region ?_;refine az rfl rfl ?_;refine ax rfl rfl rfl ?_;refine pG rfl rfl rfl (by omega) ?_;refine ah rfl rfl ?_;refine pG rfl rfl rfl (by omega) ?_;refine bL hc rfl rfl ?_;refine av rfl rfl rfl rfl rfl rfl ?_;refine TL.nil ?_;exact TC.ret ⟨_,rfl,[_],rfl,rfl⟩
theorem qZ(a b c:Xp)(p:Int×Int):(xr a b c p).cells=gw 8 0 0 ⟨#[]⟩ [] [a.cells,b.cells,c.cells] p:=by rw[Xp.ai];rfl
abbrev xC(e:Xp):List D:=gw e.kd e.op e.num e.nm e.names (e.kids.map Xp.cells) e.ps
theorem xx(k:Nat)(l:List Tr)(a b:Xp)(hk:k<=1000000000)(hl:l.length<=1000000)(hs:∀t∈l,t.to.size<=1000000000):
  PT prog 217 [.agg (lz k),.sl (ic l),.agg a.cells,.agg b.cells] (·=[.agg (vX k l (a,b)).1.cells,.agg (vX k l (a,b)).2.cells]):=by
 have Lc:(ic l).length=l.length:=by simp[ic]
 rw[a.ai,b.ai];refine PT.du (CT.aG func217 rfl ntmps217 rfl λs0 Oo=>?_)
 repeat refine TC.seq ?_
 refine TC.region ?_;refine b_ rfl rfl ?_;refine dw rfl rfl rfl rfl ?_;refine dw rfl rfl rfl rfl ?_;refine aM rfl rfl ?_;refine aM rfl rfl ?_;refine TL.nil ?_
 repeat refine TC.seq ?_
 refine TC.region ?_;refine ah rfl rfl ?_
 (refine bg rfl rfl rfl ?_;rw[Lc])
 refine iV rfl rfl rfl (by omega) ?_;refine aa rfl rfl ?_;refine TL.nil ?_
 repeat refine TC.seq ?_
 refine TC.block ?_;refine TC.ep (λm s=>∃(i:Nat) (A B:Xp) (bx:List (Nat×List M)),s=⟨[(10,.m (.d (.int .i64 (((i:Nat):Int)-1)))),(1,.m (.d (.sl (ic l)))),(4,.m (.d (.bM (lz k) 0))),(6,.loc 6 0),(7,.loc 7 0),(8,.loc 8 0),(9,.loc 9 0)],bx,[]⟩/\
   Go.Mt.get bx 6=some (A.cells.map M.d)/\Go.Mt.get bx 7=some (B.cells.map M.d)/\Go.Mt.get bx 8=some ((xC fp).map M.d)/\Go.Mt.get bx 9=some ((xC fp).map M.d)/\vX k (l.drop i) (a,b)=(A,B)/\i<=l.length/\m=i) l.length _
  ⟨l.length,a,b,_,rfl,by rw[a.ai];rfl,by rw[b.ai];rfl,rfl,rfl,by rw[List.drop_length];rfl,by omega,rfl⟩ rfl ?_
 rintro m s ⟨i,A,B,bx,rfl,G1,GD,L_,Ma,O2,hi,rfl⟩;rw[A.ai]at G1;rw[B.ai]at GD;rcases m with _|j
 ·repeat refine TC.seq ?_
  refine TC.region ?_;refine ah rfl rfl ?_;refine ak rfl rfl rfl rfl ?_;refine TL.nil ?_
  repeat refine TC.seq ?_
  refine TC.cond rfl (λhc=>by cases hc) (λhc=>?_);refine TC.exit ?_
  repeat refine TC.seq ?_
  refine TC.draw mixed ?_;refine bo rfl rfl G1 rfl rfl ?_;refine bo rfl rfl GD rfl rfl ?_;refine cc rfl rfl L_ rfl rfl rfl ?_;refine cc rfl rfl Ma rfl rfl rfl ?_;refine TF.nil ⟨by kernel_rfl,?_⟩;rw[List.drop_zero]at O2;exact TC.ret ⟨_,rfl,[_,_],rfl,by rw[O2,A.ai,B.ai]⟩
 ·have hj:((j+1:Nat):Int)-1=((j:Nat):Int):=by omega
  have JI:decide (((j:Nat):Int)>=0)=true:=decide_eq_true (Int.natCast_nonneg j);have I7:j<l.length:=by omega
  have FF:(ic l)[((j:Nat):Int).toNat]?=some l[j].cells:=by simp[ic,I7]
  have NK:l.drop j=l[j]::l.drop (j+1):=List.drop_eq_getElem_cons I7;have Gd:=hs _ (List.getElem_mem I7);generalize l[j]=t at FF NK Gd;have Ka:=iS k t.to hk Gd;have Qs:=qo (!t.xm);rw[Xp.ai]at Ka Qs;rw[t.ai]at FF;rw[hj]
  repeat refine TC.seq ?_
  refine TC.region ?_;refine ah rfl rfl ?_
  (refine ak rfl rfl rfl (r:=.bool true) (by show some (D.bool (decide (((j:Nat):Int)>=0)))=_;rw[JI]) ?_)
  refine TL.nil ?_
  repeat refine TC.seq ?_
  refine TC.cond rfl (λhc=>?_) (λhc=>by cases hc);refine TC.skip ?_
  repeat refine TC.seq ?_
  refine TC.block ?_
  repeat refine TC.seq ?_
  refine TC.region ?_;refine ah rfl rfl ?_;refine ah rfl rfl ?_;refine aO rfl rfl rfl (Int.natCast_nonneg j) FF rfl ?_;refine aW rfl rfl rfl ?_;refine aM rfl rfl ?_;refine av rfl rfl rfl rfl rfl rfl ?_;refine TL.nil ?_
  repeat refine TC.seq ?_
  refine TC.draw mixed ?_;refine aP rfl rfl ?_;refine bo rfl rfl rfl rfl rfl ?_;refine eB rfl rfl rfl ?_;refine aP rfl rfl ?_;refine bw rfl rfl rfl rfl ?_;refine bX Ka rfl rfl ?_;refine bo rfl rfl G1 rfl rfl ?_;refine bj rfl rfl rfl rfl rfl rfl rfl rfl ?_;refine aP rfl rfl ?_;refine bo rfl rfl rfl rfl rfl ?_;refine dY rfl rfl rfl rfl rfl ?_;refine cc rfl rfl G1 rfl rfl rfl ?_;refine TF.nil ⟨by kernel_rfl,?_⟩
  repeat refine TC.seq ?_
  refine TC.draw mixed ?_;refine aP rfl rfl ?_;refine bo rfl rfl rfl rfl rfl ?_;refine aP rfl rfl ?_;refine bw rfl rfl rfl rfl ?_;refine D0 rfl rfl ?_;refine bX Qs rfl rfl ?_;refine bo rfl rfl GD rfl rfl ?_;refine bj rfl rfl rfl rfl rfl rfl rfl rfl ?_;refine aP rfl rfl ?_;refine bo rfl rfl rfl rfl rfl ?_;refine dY rfl rfl rfl rfl rfl ?_;refine cc rfl rfl GD rfl rfl rfl ?_;refine TF.nil ⟨by kernel_rfl,?_⟩
  repeat refine TC.seq ?_
  refine TC.region ?_;refine ah rfl rfl ?_;refine iV rfl rfl rfl (by omega) ?_;refine aa rfl rfl ?_;refine TL.nil ?_;refine again (k':=j) (by omega) ⟨j,xr t.e (fy (fx k t.to)) A t.ps,xr t.e (iB (!t.xm)) B t.ps,_,rfl,by rw[qZ,t.e.ai,A.ai,(fy (fx k t.to)).ai];rfl,by rw[qZ,t.e.ai,B.ai,(iB (!t.xm)).ai];rfl,L_,Ma,by rw[NK];show(_,_)=_;rw[O2],by omega,rfl⟩ rfl rfl
end Go.Proofs.Pz
namespace Go.Ps
open Go.Mt Go.Sm
def kR(im:Nat)(s:DS):As:=.ex λmv:M=>Sep [.ob im (.box [mv,.d (.int .i64 ((s.n:Nat):Int))]),.acc 4 (s.ao.map En.cells) mv]
theorem q8(α β:Type)(f:α->β)(l:List α)(i:Nat)(h:i<l.length):(l.take (i+1)).map f=(l.take i).map f++[f l[i]]:=by
 rw[List.take_succ_eq_append_getElem h,List.map_append];rfl
abbrev Dm(x:Nm)(m:M)(p:Int×Int):List M:=[.d (.int .u8 3),.d (.sl []),.d (.str ⟨#[]⟩),.d (.sl []),.d (.bool false)]++((gw 4 0 0 x [] [] (0,0)).map M.d)++[m,.d (.int .i64 p.1),.d (.int .i64 p.2)]
structure Ci(a:aT):Prop where
 name:a.name.size<=1000000000
 jb:a.jb.length<=1000000
 jc:a.jc.length<=1000000
 Fe:∀t∈a.jb,t.to.size<=1000000000
 ER:∀t∈a.jc,t.to.size<=1000000000
 eqs:a.be.eqs.length<=100000000
end Go.Ps
namespace Go.Proofs.Pz
open Go.Mt Go.Sm Go.Ps Go.Proofs
open Tryz
theorem uk(it im:Nat)(q:aF)(s:DS)(hn:s.n<1000000)(he:s.ao.length<=1000000)(a0:aT)(ar:List aT)(ha:q.aj=a0::ar)(JN:q.aj.length<=1000)(Gl:∀a∈q.aj,Ci a):
  Dt prog 164 [.ref im 0,.d (.agg q.cells)] [.ob it aZ,kR im s] λr l=>r=fD [.d (.sl (aJ (iR (s.n+1) q.ps))),.d (.sl ((mi (s.n+1) q.aj q.ps).map aF.cells))]/\
   l=[.ob it aZ,kR im ⟨s.n+1,s.ao++[ni (s.n+1) q.aj q.ps]⟩]:=by
 intro H F hs;have w:=Wk.start hs;have w:Wk F H [kR im s,.ob it aZ] H:=w.pick [1,0];obtain⟨mv,w⟩:=w.open;have w:Wk F H [.ob im (.box [mv,.d (.int .i64 ((s.n:Nat):Int))]),.acc 4 (s.ao.map En.cells) mv,.ob it aZ] H:=w.split;have HF:=w.ob;have hk:((s.n:Nat):Int)+1=((s.n+1:Nat):Int):=by omega
 have I_:s.n+1<=1000000000:=by omega
 generalize LB:s.n+1=k at hk I_⊢;rw[q.ly];have hlen:(q.aj.map aT.cells).length=q.aj.length:=by simp
 refine DT.aG func164 rfl ntmps164 rfl ?_
 repeat refine DC.seq ?_
 apply DC.ae
 ·intro s0 Oo;refine b_ rfl rfl ?_;refine aa rfl rfl ?_;refine aa rfl rfl ?_;exact TL.nil rfl
 repeat refine DC.seq ?_
 apply DC.ae
 ·intro s0 Oo;refine ah rfl rfl ?_;refine eG rfl rfl rfl ?_;refine fS rfl rfl ?_;refine jq rfl rfl HF rfl ?_
  (refine aV rfl rfl rfl (by omega) ?_;rw[hk])
  refine eG rfl rfl rfl ?_;refine fS rfl rfl ?_;refine kK rfl rfl HF rfl rfl rfl ?_;exact TL.nil rfl
 have w:=w.set (.box [mv,.d (.int .i64 ((k:Nat):Int))]);have HF:=w.ob;have w:Wk F H [.ob it aZ,.acc 4 (s.ao.map En.cells) mv,.ob im (.box [mv,.d (.int .i64 ((k:Nat):Int))])] _:=w.pick [2,1,0];have MY:=w.ob;have MZ:=tj I_ MY;have hd:=Nat.le_trans (pj k I_) (by omega:21<=4000000000)
 repeat refine DC.seq ?_
 apply DC.ae
 ·intro s0 Oo;refine ah rfl rfl ?_;refine eG rfl rfl rfl ?_;refine fS rfl rfl ?_;refine jq rfl rfl HF rfl ?_;refine bn MZ rfl rfl ?_;refine aa rfl rfl ?_;exact TL.nil rfl
 repeat refine DC.seq ?_
 apply DC.ae
 ·intro s0 Oo;refine ah rfl rfl ?_;refine fO rfl rfl rfl rfl hd ?_;refine ah rfl rfl ?_;refine fO rfl rfl rfl rfl hd ?_;refine ah rfl rfl ?_;refine fO rfl rfl rfl rfl hd ?_;refine ah rfl rfl ?_;refine fO rfl rfl rfl rfl hd ?_;refine ah rfl rfl ?_;refine fO rfl rfl rfl rfl hd ?_;refine ah rfl rfl ?_;refine fO rfl rfl rfl rfl hd ?_;refine ah rfl rfl ?_;refine fO rfl rfl rfl rfl hd ?_;refine bH rfl rfl rfl rfl rfl ?_;refine aM rfl rfl ?_;refine av rfl rfl rfl rfl rfl rfl ?_;exact TL.nil rfl
 repeat refine DC.seq ?_
 apply DC.ae
 ·intro s0 Oo;refine aq rfl rfl ?_;refine aB rfl rfl rfl rfl ?_;refine az rfl rfl ?_;refine dj rfl rfl rfl ?_;refine bH rfl rfl rfl rfl rfl ?_;refine aM rfl rfl ?_;refine av rfl rfl rfl rfl rfl rfl ?_;exact TL.nil rfl
 repeat refine DC.seq ?_
 apply DC.ae
 ·intro s0 Oo;refine az rfl rfl ?_;refine ax rfl rfl rfl ?_
  (refine bg rfl rfl rfl ?_;rw[hlen])
  refine ah rfl rfl ?_;exact TL.nil rfl
 obtain⟨L,hL⟩:∃L,L=q.aj:=⟨_,rfl⟩;rw[<-hL]at Gl JN ha⊢;have w:=w.nil 1;refine DC.ca [(60,.m (.d (.int .i64 ((0:Nat):Int)))),(59,.m (.d (.int .i64 ((L.length:Nat):Int)))),(58,.m (.d (.sl (L.map aT.cells)))),(8,.loc 8 0),(7,.loc 7 0),(3,.m (.d (.bM (rH q) 0))),(0,.m (.ref im 0))] _ _ (by rw[hL];rfl) (λ_=>rfl) rfl ?_
 repeat refine DC.seq ?_
 refine DC.block ?_;refine DC.loop (λm s1=>∃(i:Nat) (mc:M) (bx:List (Nat×List M)) (H1:Hp),s1=⟨[(60,.m (.d (.int .i64 ((i:Nat):Int)))),(59,.m (.d (.int .i64 ((L.length:Nat):Int)))),(58,.m (.d (.sl (L.map aT.cells)))),(8,.loc 8 0),(7,.loc 7 0),(3,.m (.d (.bM (rH q) 0))),(0,.m (.ref im 0))],bx,H1⟩/\
   Go.Mt.get bx 7=some ((lz k).map M.d)/\Go.Mt.get bx 8=some [.d (.str (nT k)),mc,.d (.int .i64 q.ps.1),.d (.int .i64 q.ps.2)]/\
   Wk F H [.acc 1 (aU ((L.take i).map λa=>fx k a.name)) mc,.ob im (.box [mv,.d (.int .i64 ((k:Nat):Int))]),.acc 4 (s.ao.map En.cells) mv,.ob it aZ] H1/\i<=L.length/\m=L.length-i) L.length _
  ⟨0,.d (.sl []),_,_,rfl,rfl,rfl,w.pick [0,3,2,1],by omega,rfl⟩ rfl ?_
 rintro m s1 ⟨i,mc,bx,H1,rfl,GD,L_,w,hi,rfl⟩
 repeat refine DC.seq ?_
 apply DC.ae
 ·intro s0 Oo;refine ak rfl rfl rfl rfl ?_;exact TL.nil rfl
 repeat refine DC.seq ?_
 refine DC.cond rfl (λhc=>?_) (λhc=>?_)
 ·have FH:i<L.length:=by have:=of_decide_eq_true hc;omega
  clear hc;have FF:(L.map aT.cells)[((i:Nat):Int).toNat]?=some L[i].cells:=by simp[FH]
  have IQ:=Gl _ (List.getElem_mem FH);have Hx:=List.take_succ_eq_append_getElem FH;generalize L[i]=a at FF IQ Hx;have H8:aU ((L.take (i+1)).map λa=>fx k a.name)=aU ((L.take i).map λa=>fx k a.name)++[[.str (fx k a.name)]]:=by rw[Hx];simp[aU]
  rw[a.ai]at FF;have Ka:=iS k a.name I_ IQ.name;rw[Xp.ai]at Ka;refine DC.skip ?_
  repeat refine DC.seq ?_
  refine DC.block ?_
  repeat refine DC.seq ?_
  apply DC.ae
  ·intro s0 Oo;refine aO rfl rfl rfl (Int.natCast_nonneg i) FF rfl ?_;refine aW rfl rfl rfl ?_;refine aM rfl rfl ?_;refine av rfl rfl rfl rfl rfl rfl ?_;exact TL.nil rfl
  repeat refine DC.seq ?_
  apply DC.da mixed
  ·intro s0 Oo;refine aP rfl rfl ?_;refine bw rfl rfl L_ rfl ?_;refine bo rfl rfl GD rfl rfl ?_;refine aP rfl rfl ?_;refine bw rfl rfl rfl rfl ?_;refine bX Ka rfl rfl ?_;refine ta rfl rfl rfl rfl ?_;refine bj rfl rfl rfl rfl rfl rfl rfl rfl ?_;refine fV w rfl rfl rfl rfl rfl rfl rfl (by simp[aU];omega) ?_;refine aP rfl rfl ?_;refine cc rfl rfl L_ (cW _ _ _) rfl rfl ?_;exact TF.nil ⟨by kernel_rfl,rfl⟩
  have w:=w.app [[.str (fx k a.name)]]
  repeat refine DC.seq ?_
  apply DC.ae
  ·intro s0 Oo;refine aV rfl rfl rfl (by omega) ?_;refine ah rfl rfl ?_;exact TL.nil rfl
  exact cb (k':=L.length-(i+1)) (by omega) ⟨i+1,_,_,_,rfl,GD,rfl,by rw[H8];exact w,by omega,rfl⟩ rfl rfl
 ·refine DC.exit ?_;have FH:i=L.length:=by have:=of_decide_eq_false hc;omega
  subst FH;rw[List.take_length]at w;have IR:=w.view (et _);refine DC.eK (FG:=[.d (.str (nT k)),.d (.sl (aU (L.map λa=>fx k a.name))),.d (.int .i64 q.ps.1),.d (.int .i64 q.ps.2)]) 8 L_ (db (pk IR (db (db (qm _))))) ?_;have w:=w.drop;have w:Wk F H [.acc 4 (s.ao.map En.cells) mv,.ob im (.box [mv,.d (.int .i64 ((k:Nat):Int))]),.ob it aZ] H1:=w.pick [1,0,2];have HF:=(w.pick [1,0,2]).ob;have w2:=w.app [[.str (nT k),.sl (aU (L.map λa=>fx k a.name)),.int .i64 q.ps.1,.int .i64 q.ps.2]];have w3:=w2.pick [1,0,2];have I':=w3.ob
  repeat refine DC.seq ?_
  apply DC.da mixed
  ·intro s0 Oo;refine aH rfl rfl ?_;refine aH rfl rfl ?_;refine dL rfl rfl rfl ?_;refine fU rfl rfl ?_;refine kI rfl rfl HF rfl ?_;refine bo rfl rfl rfl rfl rfl ?_;refine bj rfl rfl rfl rfl rfl rfl rfl rfl ?_;refine fV w rfl rfl rfl rfl rfl rfl rfl (by simp;omega) ?_;refine dL rfl rfl rfl ?_;refine fU rfl rfl ?_;refine pL rfl rfl I' (cW _ _ _) rfl rfl ?_;exact TF.nil ⟨by kernel_rfl,rfl⟩
  obtain⟨EN,Qt⟩:∃EN,EN=s.ao.map En.cells++[[.str (nT k),.sl (aU (L.map λa=>fx k a.name)),.int .i64 q.ps.1,.int .i64 q.ps.2]]:=⟨_,rfl⟩;rw[<-Qt]at w3;obtain⟨ME,K,hK,w⟩:∃ME K,(fo 4 mv H1 [[.str (nT k),.sl (aU (L.map λa=>fx k a.name)),.int .i64 q.ps.1,.int .i64 q.ps.2]]).set im (.box [dT mv H1 [[.str (nT k),.sl (aU (L.map λa=>fx k a.name)),.int .i64 q.ps.1,.int .i64 q.ps.2]],.d (.int .i64 ((k:Nat):Int))])=K/\
    Wk F H [.ob im (.box [ME,.d (.int .i64 ((k:Nat):Int))]),.acc 4 EN ME,.ob it aZ] K:=⟨_,_,rfl,w3.set (.box [dT mv H1 [[.str (nT k),.sl (aU (L.map λa=>fx k a.name)),.int .i64 q.ps.1,.int .i64 q.ps.2]],.d (.int .i64 ((k:Nat):Int))])⟩
  repeat refine DC.seq ?_
  apply DC.ae
  ·intro s0 Oo;refine aa rfl rfl ?_;exact TL.nil rfl
  repeat refine DC.seq ?_
  apply DC.ae
  ·intro s0 Oo;refine aq rfl rfl ?_;refine aB rfl rfl GD rfl ?_;refine aq rfl rfl ?_;refine aB rfl rfl GD rfl ?_;refine aq rfl rfl ?_;refine aB rfl rfl GD rfl ?_;refine z7 rfl rfl rfl rfl ?_;refine ah rfl rfl ?_;exact TL.nil rfl
  have w:=w.nil 15;obtain⟨nl,Iv⟩:∃nl:List Nm,nl=[nS k,nA k,nN k]:=⟨_,rfl⟩;have Qu:nl.length=3:=by rw[Iv];rfl
  obtain⟨IA,Od⟩:∃g:Nm->Va,g= λx=>⟨x,3,(nT k),[],false,fp,q.ps⟩:=⟨_,rfl⟩
  refine DC.ca [(92,.m (.d (.int .i64 ((0:Nat):Int)))),(91,.m (.d (.agg (nl.map D.str)))),(11,.m (.d (.sl []))),(8,.loc 8 0),(7,.loc 7 0),(3,.m (.d (.bM (rH q) 0))),(0,.m (.ref im 0))] _ _ (by rw[Iv];rfl) (λ_=>rfl) hK ?_
  repeat refine DC.seq ?_
  refine DC.block ?_;refine DC.loop (λm s1=>∃(i:Nat) (mc:M) (bx:List (Nat×List M)) (H1:Hp),s1=⟨[(92,.m (.d (.int .i64 ((i:Nat):Int)))),(91,.m (.d (.agg (nl.map D.str)))),(11,.m mc),(8,.loc 8 0),(7,.loc 7 0),(3,.m (.d (.bM (rH q) 0))),(0,.m (.ref im 0))],bx,H1⟩/\
    Go.Mt.get bx 7=some ((lz k).map M.d)/\
    Wk F H [.acc 15 (aJ ([]++(nl.take i).map IA)) mc,.ob im (.box [ME,.d (.int .i64 ((k:Nat):Int))]),.acc 4 EN ME,.ob it aZ] H1/\i<=3/\m=3-i) 3 _
   ⟨0,(.d (.sl [])),_,_,rfl,GD,(by rw[show aJ ([]++(nl.take 0).map IA)=[] by rw[List.take_zero];rfl];exact w.pick [0,1,2,3]),by omega,rfl⟩ rfl ?_
  rintro m s1 ⟨i,mc,bx,H1,rfl,GD,w,hi,rfl⟩
  repeat refine DC.seq ?_
  apply DC.ae
  ·intro s0 Oo;refine ak rfl rfl rfl rfl ?_;exact TL.nil rfl
  repeat refine DC.seq ?_
  refine DC.cond rfl (λhc=>?_) (λhc=>?_)
  ·have FH:i<nl.length:=by have:=of_decide_eq_true hc;omega
   clear hc;have FF:((nl.map D.str).map M.d)[i*1]?=some (.d (.str nl[i])):=by simp[FH]
   have Hx:=List.take_succ_eq_append_getElem FH;generalize nl[i]=a at FF Hx;have H8:aJ ([]++(nl.take (i+1)).map IA)=aJ ([]++(nl.take i).map IA)++[[.str a,.int .u8 3,.str (nT k),.sl [],.bool false,.int .u8 0,.int .u8 0,.int .i32 0,.str ⟨#[]⟩,.sl [],.sl [],.int .i64 0,.int .i64 0,.int .i64 q.ps.1,.int .i64 q.ps.2]]:=by
    rw[Hx,List.map_append,<-List.append_assoc,ql]
    congr 1
    rw[Od];simp only[aJ,List.map_cons,List.map_nil,Va.ai];rfl
   have Jr:(aJ ([]++(nl.take i).map IA)).length<=10:=by rw[mT];simp;omega
   refine DC.skip ?_
   repeat refine DC.seq ?_
   refine DC.block ?_
   repeat refine DC.seq ?_
   apply DC.ae
   ·intro s0 Oo;refine uM rfl rfl rfl rfl (by omega) FF ?_;refine aa rfl rfl ?_;exact TL.nil rfl
   repeat refine DC.seq ?_
   apply DC.ae
   ·intro s0 Oo;refine ah rfl rfl ?_;refine ah rfl rfl ?_;refine aq rfl rfl ?_;refine aB rfl rfl GD rfl ?_;refine bH rfl rfl rfl rfl rfl ?_;refine az rfl rfl ?_;refine dj rfl rfl rfl ?_;refine bH rfl rfl rfl rfl rfl ?_;refine aD rfl rfl rfl rfl rfl rfl rfl rfl ?_;refine cK w rfl rfl rfl rfl rfl rfl (by exact cO rfl) (by simp only[List.length_singleton];omega) ?_;refine aa rfl rfl ?_;exact TL.nil rfl
   have w:=w.app [[.str a,.int .u8 3,.str (nT k),.sl [],.bool false,.int .u8 0,.int .u8 0,.int .i32 0,.str ⟨#[]⟩,.sl [],.sl [],.int .i64 0,.int .i64 0,.int .i64 q.ps.1,.int .i64 q.ps.2]]
   repeat refine DC.seq ?_
   apply DC.ae
   ·intro s0 Oo;refine aV rfl rfl rfl (by omega) ?_;refine ah rfl rfl ?_;exact TL.nil rfl
   exact cb (k':=3-(i+1)) (by omega) ⟨i+1,_,_,_,rfl,GD,by rw[H8];exact w,by omega,rfl⟩ rfl rfl
  ·refine DC.exit ?_;have FH:i=3:=by have:=of_decide_eq_false hc;omega
   subst FH;rw[<-Qu,List.take_length]at w
   repeat refine DC.seq ?_
   apply DC.ae
   ·intro s0 Oo;refine aq rfl rfl ?_;refine aB rfl rfl GD rfl ?_;refine aq rfl rfl ?_;refine aB rfl rfl GD rfl ?_;refine aq rfl rfl ?_;refine aB rfl rfl GD rfl ?_;refine z7 rfl rfl rfl rfl ?_;refine ah rfl rfl ?_;exact TL.nil rfl
   obtain⟨nm,Ix⟩:∃nl:List Nm,nl=[nR k,nB k,nM k]:=⟨_,rfl⟩;have Qv:nm.length=3:=by rw[Ix];rfl
   obtain⟨Ky,Oe⟩:∃g:Nm->Va,g= λx=>⟨x,1,⟨#[]⟩,[],false,fp,q.ps⟩:=⟨_,rfl⟩
   refine DC.ca [(113,.m (.d (.int .i64 ((0:Nat):Int)))),(112,.m (.d (.agg (nm.map D.str)))),(11,.m mc),(8,.loc 8 0),(7,.loc 7 0),(3,.m (.d (.bM (rH q) 0))),(0,.m (.ref im 0))] _ _ (by rw[Ix];rfl) (λ_=>rfl) rfl ?_
   repeat refine DC.seq ?_
   refine DC.block ?_;refine DC.loop (λm s1=>∃(i:Nat) (mc:M) (bx:List (Nat×List M)) (H1:Hp),s1=⟨[(113,.m (.d (.int .i64 ((i:Nat):Int)))),(112,.m (.d (.agg (nm.map D.str)))),(11,.m mc),(8,.loc 8 0),(7,.loc 7 0),(3,.m (.d (.bM (rH q) 0))),(0,.m (.ref im 0))],bx,H1⟩/\
     Go.Mt.get bx 7=some ((lz k).map M.d)/\
     Wk F H [.acc 15 (aJ ((nl.map IA)++(nm.take i).map Ky)) mc,.ob im (.box [ME,.d (.int .i64 ((k:Nat):Int))]),.acc 4 EN ME,.ob it aZ] H1/\i<=3/\m=3-i) 3 _
    ⟨0,mc,_,_,rfl,GD,(by rw[show aJ (nl.map IA++(nm.take 0).map Ky)=aJ ([]++nl.map IA) by simp];exact w),by omega,rfl⟩ rfl ?_
   rintro m s1 ⟨i,mc,bx,H1,rfl,GD,w,hi,rfl⟩
   repeat refine DC.seq ?_
   apply DC.ae
   ·intro s0 Oo;refine ak rfl rfl rfl rfl ?_;exact TL.nil rfl
   repeat refine DC.seq ?_
   refine DC.cond rfl (λhc=>?_) (λhc=>?_)
   ·have FH:i<nm.length:=by have:=of_decide_eq_true hc;omega
    clear hc;have FF:((nm.map D.str).map M.d)[i*1]?=some (.d (.str nm[i])):=by simp[FH]
    have Hx:=List.take_succ_eq_append_getElem FH;generalize nm[i]=a at FF Hx;have H8:aJ ((nl.map IA)++(nm.take (i+1)).map Ky)=aJ ((nl.map IA)++(nm.take i).map Ky)++[[.str a,.int .u8 1,.str ⟨#[]⟩,.sl [],.bool false,.int .u8 0,.int .u8 0,.int .i32 0,.str ⟨#[]⟩,.sl [],.sl [],.int .i64 0,.int .i64 0,.int .i64 q.ps.1,.int .i64 q.ps.2]]:=by
     rw[Hx,List.map_append,<-List.append_assoc,ql]
     congr 1
     rw[Oe];simp only[aJ,List.map_cons,List.map_nil,Va.ai];rfl
    have Jr:(aJ ((nl.map IA)++(nm.take i).map Ky)).length<=10:=by rw[mT];simp;omega
    refine DC.skip ?_
    repeat refine DC.seq ?_
    refine DC.block ?_
    repeat refine DC.seq ?_
    apply DC.ae
    ·intro s0 Oo;refine uM rfl rfl rfl rfl (by omega) FF ?_;refine aa rfl rfl ?_;exact TL.nil rfl
    repeat refine DC.seq ?_
    apply DC.ae
    ·intro s0 Oo;refine ah rfl rfl ?_;refine ah rfl rfl ?_;refine bH rfl rfl rfl rfl rfl ?_;refine az rfl rfl ?_;refine dj rfl rfl rfl ?_;refine bH rfl rfl rfl rfl rfl ?_;refine aD rfl rfl rfl rfl rfl rfl rfl rfl ?_;refine cK w rfl rfl rfl rfl rfl rfl (by exact cO rfl) (by simp only[List.length_singleton];omega) ?_;refine aa rfl rfl ?_;exact TL.nil rfl
    have w:=w.app [[.str a,.int .u8 1,.str ⟨#[]⟩,.sl [],.bool false,.int .u8 0,.int .u8 0,.int .i32 0,.str ⟨#[]⟩,.sl [],.sl [],.int .i64 0,.int .i64 0,.int .i64 q.ps.1,.int .i64 q.ps.2]]
    repeat refine DC.seq ?_
    apply DC.ae
    ·intro s0 Oo;refine aV rfl rfl rfl (by omega) ?_;refine ah rfl rfl ?_;exact TL.nil rfl
    exact cb (k':=3-(i+1)) (by omega) ⟨i+1,_,_,_,rfl,GD,by rw[H8];exact w,by omega,rfl⟩ rfl rfl
   ·refine DC.exit ?_;have FH:i=3:=by have:=of_decide_eq_false hc;omega
    subst FH;rw[<-Qv,List.take_length]at w;have Sd:nl.map IA++nm.map Ky=iR k q.ps:=by rw[Od,Oe,Iv,Ix];rfl
    rw[Sd]at w;have Of:=e9 (nS k);have Kz:=e9 (nA k);rw[Xp.ai]at Of Kz;have KR:(L.map aT.cells).length=L.length:=by simp
    rw[hL]at KR
    repeat refine DC.seq ?_
    apply DC.da mixed
    ·intro s0 Oo;refine aP rfl rfl ?_;refine bw rfl rfl GD rfl ?_;refine bX Of rfl rfl ?_;refine bY rfl rfl ?_;refine eY rfl rfl rfl ?_;refine dY rfl rfl rfl rfl rfl ?_;refine gm rfl ?_;refine cc rfl rfl rfl rfl rfl rfl ?_;exact TF.nil ⟨by kernel_rfl,rfl⟩
    repeat refine DC.seq ?_
    apply DC.da mixed
    ·intro s0 Oo;refine aP rfl rfl ?_;refine bw rfl rfl GD rfl ?_;refine bX Kz rfl rfl ?_;refine bY rfl rfl ?_;refine eY rfl rfl rfl ?_;refine dY rfl rfl rfl rfl rfl ?_;refine gm rfl ?_;refine cc rfl rfl rfl rfl rfl rfl ?_;exact TF.nil ⟨by kernel_rfl,rfl⟩
    repeat refine DC.seq ?_
    apply DC.ae
    ·intro s0 Oo;refine az rfl rfl ?_;refine ax rfl rfl rfl ?_
     (refine bg rfl rfl rfl ?_;rw[KR])
     refine ah rfl rfl ?_;exact TL.nil rfl
    have w:=(w.nil 7).nil 7;refine DC.ca [(140,.m (.d (.int .i64 ((0:Nat):Int)))),(139,.m (.d (.int .i64 ((L.length:Nat):Int)))),(138,.m (.d (.sl (L.map aT.cells)))),(17,.loc 17 0),(16,.loc 16 0),(11,.m mc),(7,.loc 7 0),(3,.m (.d (.bM (rH q) 0))),(0,.m (.ref im 0))] _ _ (by rw[hL];rfl) (λ_=>rfl) rfl ?_
    repeat refine DC.seq ?_
    refine DC.block ?_;refine DC.loop (λm s1=>∃(i:Nat) (ms mw:M) (bx:List (Nat×List M)) (H1:Hp),s1=⟨[(140,.m (.d (.int .i64 ((i:Nat):Int)))),(139,.m (.d (.int .i64 ((L.length:Nat):Int)))),(138,.m (.d (.sl (L.map aT.cells)))),(17,.loc 17 0),(16,.loc 16 0),(11,.m mc),(7,.loc 7 0),(3,.m (.d (.bM (rH q) 0))),(0,.m (.ref im 0))],bx,H1⟩/\
      Go.Mt.get bx 7=some ((lz k).map M.d)/\Go.Mt.get bx 16=some (Dm (nS k) ms q.ps)/\Go.Mt.get bx 17=some (Dm (nA k) mw q.ps)/\
      Wk F H [.acc 7 (((L.take i).map (fW k)).map aT.cells) ms,.acc 7 (((L.take i).map (gY k)).map aT.cells) mw,.acc 15 (aJ (iR k q.ps)) mc,.ob im (.box [ME,.d (.int .i64 ((k:Nat):Int))]),.acc 4 EN ME,.ob it aZ] H1/\i<=L.length/\m=L.length-i) L.length _
     ⟨0,.d (.sl []),.d (.sl []),_,_,rfl,GD,rfl,rfl,w,by omega,rfl⟩ rfl ?_
    clear GD w;rintro m s1 ⟨i,ms,mw,bx,H1,rfl,GD,Hu,M0,w,hi,rfl⟩
    repeat refine DC.seq ?_
    apply DC.ae
    ·intro s0 Oo;refine ak rfl rfl rfl rfl ?_;exact TL.nil rfl
    repeat refine DC.seq ?_
    refine DC.cond rfl (λhc=>?_) (λhc=>?_)
    ·have FH:i<L.length:=by have:=of_decide_eq_true hc;omega
     clear hc;have FF:(L.map aT.cells)[((i:Nat):Int).toNat]?=some L[i].cells:=by simp[FH]
     have IQ:=Gl _ (List.getElem_mem FH);have Hx:=List.take_succ_eq_append_getElem FH;generalize L[i]=a at FF IQ Hx;have H8:((L.take (i+1)).map (fW k)).map aT.cells=((L.take i).map (fW k)).map aT.cells++[(fW k a).cells]:=by rw[Hx];simp
     have IJ:((L.take (i+1)).map (gY k)).map aT.cells=((L.take i).map (gY k)).map aT.cells++[(gY k a).cells]:=by rw[Hx];simp
     have Tl:(((L.take i).map (fW k)).map aT.cells).length<=1000:=by simp;omega
     have Tm:(((L.take i).map (gY k)).map aT.cells).length<=1000:=by simp;omega
     rw[a.ai]at FF;have Ka:=iS k a.name I_ IQ.name;have Qw:=e9 (nR k);have HN:=e9 (nB k);have M1:=qo false;have LR:=xx k a.jb (fy (fx k a.name)) (bk (nR k)) I_ IQ.jb IQ.Fe;have KM:=xx k a.jc (fy (fx k a.name)) (iB false) I_ IQ.jc IQ.ER;obtain⟨A1,Qx⟩:∃A,A=vX k a.jb (fy (fx k a.name),bk (nR k)):=⟨_,rfl⟩;obtain⟨A2,Qy⟩:∃A,A=vX k a.jc (fy (fx k a.name),iB false):=⟨_,rfl⟩;rw[<-Qx]at LR;rw[<-Qy]at KM;have HV:=jt (nA k) A1.1 a.ps;have M2:=jt (nB k) A1.2 a.ps;have Qz:=jt (nN k) A2.1 a.ps;have QA:=jt (nM k) A2.2 a.ps;rw[cI,Xp.ai]at HV M2 Qz QA;rw[A1.1.ai,A1.2.ai,(fy (fx k a.name)).ai,(bk (nR k)).ai]at LR;rw[A2.1.ai,A2.2.ai,(fy (fx k a.name)).ai,(iB false).ai]at KM;rw[Xp.ai]at Ka Qw HN M1;refine DC.skip ?_
     repeat refine DC.seq ?_
     refine DC.block ?_
     repeat refine DC.seq ?_
     apply DC.ae
     ·intro s0 Oo;refine aO rfl rfl rfl (Int.natCast_nonneg i) FF rfl ?_;refine aW rfl rfl rfl ?_;refine aM rfl rfl ?_;refine av rfl rfl rfl rfl rfl rfl ?_;exact TL.nil rfl
     repeat refine DC.seq ?_
     apply DC.ae
     ·intro s0 Oo;refine aY rfl rfl GD rfl rfl ?_;refine aq rfl rfl ?_;refine aB rfl rfl rfl rfl ?_;refine bL Ka rfl rfl ?_;refine aM rfl rfl ?_;refine av rfl rfl rfl rfl rfl rfl ?_;exact TL.nil rfl
     repeat refine DC.seq ?_
     apply DC.da mixed
     ·intro s0 Oo;refine bo rfl rfl GD rfl rfl ?_;refine aP rfl rfl ?_;refine bw rfl rfl rfl rfl ?_;refine bo rfl rfl rfl rfl rfl ?_;refine aP rfl rfl ?_;refine bw rfl rfl GD rfl ?_;refine bX Qw rfl rfl ?_;refine kL (CT.Eh LR) rfl rfl ?_;refine aH rfl rfl ?_;refine ik rfl rfl rfl ?_;refine ik rfl rfl rfl ?_;refine gm rfl ?_;refine gm rfl ?_;refine cc rfl rfl rfl rfl rfl rfl ?_;refine cc rfl rfl rfl rfl rfl rfl ?_;exact TF.nil ⟨by kernel_rfl,rfl⟩
     have I':(fW k a).cells=[.str (fx k a.name),.sl [],.sl [dN 1 [nA k] ⟨#[]⟩ [] false (xC A1.1) [] a.ps,dN 1 [nB k] ⟨#[]⟩ [] false (xC A1.2) [] a.ps],.sl [],.sl [],.int .i64 a.ps.1,.int .i64 a.ps.2]:=by
      rw[aT.ai,<-cI,<-cI,Qx];rfl
     have MP:(gY k a).cells=[.str (fx k a.name),.sl [],.sl [dN 5 [] ⟨#[]⟩ [] false (gw 4 0 0 (nB k) [] [] (0,0)) [[.str ⟨#[]⟩,.sl (aJ a.be.vars),.sl (bm a.be.eqs++[dN 1 [nN k] ⟨#[]⟩ [] false (xC A2.1) [] a.ps,dN 1 [nM k] ⟨#[]⟩ [] false (xC A2.2) [] a.ps]),.sl [],.sl [],.int .i64 a.ps.1,.int .i64 a.ps.2]] a.ps],.sl [],.sl [],.int .i64 a.ps.1,.int .i64 a.ps.2]:=by
      rw[aT.ai,<-cI,<-cI,Qy];unfold gY;simp only[aT.name,aT.be,aT.jb,aT.jc,aT.ps,bJ.vars,bJ.eqs,List.map_cons,List.map_nil,aF.cells,te,aT.cells,bJ.cells,aJ,uQ,List.map_append];rw[Xp.ai];rfl
     rw[I']at H8;rw[MP]at IJ
     repeat refine DC.seq ?_
     apply DC.da mixed
     ·intro s0 Oo;refine aP rfl rfl ?_;refine bw rfl rfl Hu rfl ?_;refine aP rfl rfl ?_;refine bw rfl rfl rfl rfl ?_;refine aP rfl rfl ?_;refine bo rfl rfl rfl rfl rfl ?_;refine aP rfl rfl ?_;refine bw rfl rfl GD rfl ?_;refine bo rfl rfl rfl rfl rfl ?_;refine aP rfl rfl ?_;refine bo rfl rfl rfl rfl rfl ?_;refine bX HV rfl rfl ?_;refine aP rfl rfl ?_;refine bw rfl rfl GD rfl ?_;refine bo rfl rfl rfl rfl rfl ?_;refine aP rfl rfl ?_;refine bo rfl rfl rfl rfl rfl ?_;refine bX M2 rfl rfl ?_;refine bj rfl rfl rfl rfl rfl rfl rfl rfl ?_;refine dY rfl rfl rfl rfl rfl ?_;refine dY rfl rfl rfl rfl rfl ?_;refine bj rfl rfl rfl rfl rfl rfl rfl rfl ?_;refine fV w rfl rfl rfl rfl rfl rfl rfl (by omega) ?_;refine aP rfl rfl ?_;refine cc rfl rfl Hu (cW _ _ _) rfl rfl ?_;exact TF.nil ⟨by kernel_rfl,rfl⟩
     have w:=w.app [[.str (fx k a.name),.sl [],.sl [dN 1 [nA k] ⟨#[]⟩ [] false (xC A1.1) [] a.ps,dN 1 [nB k] ⟨#[]⟩ [] false (xC A1.2) [] a.ps],.sl [],.sl [],.int .i64 a.ps.1,.int .i64 a.ps.2]]
     repeat refine DC.seq ?_
     apply DC.da mixed
     ·intro s0 Oo;refine bo rfl rfl GD rfl rfl ?_;refine aP rfl rfl ?_;refine bw rfl rfl rfl rfl ?_;refine bo rfl rfl rfl rfl rfl ?_;refine bX M1 rfl rfl ?_;refine kL (CT.Eh KM) rfl rfl ?_;refine aH rfl rfl ?_;refine ik rfl rfl rfl ?_;refine ik rfl rfl rfl ?_;refine cc rfl rfl rfl rfl rfl rfl ?_;refine cc rfl rfl rfl rfl rfl rfl ?_;exact TF.nil ⟨by kernel_rfl,rfl⟩
     obtain⟨mq,K2,l',GC,w,FX⟩:=Wk.call (a:=[]) w (yP a.be.eqs IQ.eqs);subst GC;have J8:(bm a.be.eqs).length<=100000000:=by simpa [bm] using IQ.eqs
     have w2:=w.app [dN 1 [nN k] ⟨#[]⟩ [] false (xC A2.1) [] a.ps,dN 1 [nM k] ⟨#[]⟩ [] false (xC A2.2) [] a.ps];have IR:=w2.view (by
      intro r hr;rcases List.mem_append.1 hr with hr|hr
      ·exact cg _ r hr
      ·exact xw (n:=16) rfl rfl r hr)
     repeat refine DC.seq ?_
     apply DC.da mixed
     ·intro s0 Oo;refine aP rfl rfl ?_;refine aP rfl rfl ?_;refine bw rfl rfl rfl rfl ?_;refine aP rfl rfl ?_;refine aP rfl rfl ?_;refine bw rfl rfl rfl rfl ?_;refine gq FX rfl rfl ?_;refine aP rfl rfl ?_;refine bw rfl rfl GD rfl ?_;refine bo rfl rfl rfl rfl rfl ?_;refine aP rfl rfl ?_;refine bo rfl rfl rfl rfl rfl ?_;refine bX Qz rfl rfl ?_;refine aP rfl rfl ?_;refine bw rfl rfl GD rfl ?_;refine bo rfl rfl rfl rfl rfl ?_;refine aP rfl rfl ?_;refine bo rfl rfl rfl rfl rfl ?_;refine bX QA rfl rfl ?_;refine bj rfl rfl rfl rfl rfl rfl rfl rfl ?_;refine z6 w rfl rfl rfl rfl rfl rfl (by simp) (xw rfl rfl) (by simp only[List.length_cons,List.length_nil];omega) ?_;refine uV (cs:=[.d (.sl (aJ a.be.vars)),dT mq K2 [dN 1 [nN k] ⟨#[]⟩ [] false (xC A2.1) [] a.ps,dN 1 [nM k] ⟨#[]⟩ [] false (xC A2.2) [] a.ps]]) rfl rfl rfl (by simp only[gU];rw[show dJ (dT mq K2 _)=some [dT mq K2 _]from cW _ _ _];rfl) ?_;refine gm rfl ?_;refine cc rfl rfl rfl (fX _) rfl rfl ?_;exact TF.nil ⟨by kernel_rfl,rfl⟩
     refine DC.eK (FG:=[.d (.sl (aJ a.be.vars)),.d (.sl (bm a.be.eqs++[dN 1 [nN k] ⟨#[]⟩ [] false (xC A2.1) [] a.ps,dN 1 [nM k] ⟨#[]⟩ [] false (xC A2.2) [] a.ps]))]) 23 rfl (db (pk IR (qm _))) ?_;have w:Wk F H [.acc 7 (((L.take i).map (gY k)).map aT.cells) mw,.acc 7 _ _,.acc 15 (aJ (iR k q.ps)) mc,.ob im (.box [ME,.d (.int .i64 ((k:Nat):Int))]),.acc 4 EN ME,.ob it aZ] _:=(w2.drop).pick [1,0,2,3,4,5]
     repeat refine DC.seq ?_
     apply DC.da mixed
     ·intro s0 Oo;refine aP rfl rfl ?_;refine bw rfl rfl GD rfl ?_;refine bX HN rfl rfl ?_;refine bo rfl rfl rfl rfl rfl ?_;refine aP rfl rfl ?_;refine bo rfl rfl rfl rfl rfl ?_;refine dY rfl rfl rfl rfl rfl ?_;refine bj rfl rfl rfl rfl rfl rfl rfl rfl ?_;refine aP rfl rfl ?_;refine bo rfl rfl rfl rfl rfl ?_;refine dY rfl rfl rfl rfl rfl ?_;refine gm rfl ?_;refine cc rfl rfl rfl rfl rfl rfl ?_;exact TF.nil ⟨by kernel_rfl,rfl⟩
     repeat refine DC.seq ?_
     apply DC.ae
     ·intro s0 Oo;refine aq rfl rfl ?_;refine aB rfl rfl M0 rfl ?_;refine aq rfl rfl ?_;refine aB rfl rfl rfl rfl ?_;refine aq rfl rfl ?_;refine aY rfl rfl rfl rfl rfl ?_;refine aY rfl rfl rfl rfl rfl ?_;refine aD rfl rfl rfl rfl rfl rfl rfl rfl ?_;refine bH rfl rfl rfl rfl rfl ?_;refine bH rfl rfl rfl rfl rfl ?_;refine aD rfl rfl rfl rfl rfl rfl rfl rfl ?_;refine cK w rfl rfl rfl rfl rfl rfl (by exact cO rfl) (by simp only[List.length_singleton];omega) ?_;refine aq rfl rfl ?_;refine av rfl rfl M0 (cW _ _ _) rfl rfl ?_;exact TL.nil rfl
     have w:=w.app [[.str (fx k a.name),.sl [],.sl [dN 5 [] ⟨#[]⟩ [] false (gw 4 0 0 (nB k) [] [] (0,0)) [[.str ⟨#[]⟩,.sl (aJ a.be.vars),.sl (bm a.be.eqs++[dN 1 [nN k] ⟨#[]⟩ [] false (xC A2.1) [] a.ps,dN 1 [nM k] ⟨#[]⟩ [] false (xC A2.2) [] a.ps]),.sl [],.sl [],.int .i64 a.ps.1,.int .i64 a.ps.2]] a.ps],.sl [],.sl [],.int .i64 a.ps.1,.int .i64 a.ps.2]]
     repeat refine DC.seq ?_
     apply DC.ae
     ·intro s0 Oo;refine aV rfl rfl rfl (by omega) ?_;refine ah rfl rfl ?_;exact TL.nil rfl
     exact cb (k':=L.length-(i+1)) (by omega) ⟨i+1,_,_,_,_,rfl,GD,rfl,rfl,by rw[H8,IJ];exact w.pick [1,0,2,3,4,5],by omega,rfl⟩ rfl rfl
    ·refine DC.exit ?_;have FH:i=L.length:=by have:=of_decide_eq_false hc;omega
     subst FH;rw[List.take_length]at w;have H8:=w.view (qn _);have IJ:=(w.pick [1,0,2,3,4,5]).view (qn _);have O3:=(w.pick [2,0,1,3,4,5]).view (fP _);refine DC.eK (FG:=Dm (nS k) (.d (.sl ((L.map (fW k)).map aT.cells))) q.ps) 16 Hu (by repeat' first|exact qm _|refine db ?_|refine pk H8 ?_) ?_;refine DC.eK (FG:=Dm (nA k) (.d (.sl ((L.map (gY k)).map aT.cells))) q.ps) 17 M0 (by repeat' first|exact qm _|refine db ?_|refine pk IJ ?_) ?_;refine DC.bC 11 rfl O3 ?_;have QB:(q.aj.map aT.cells)[((0:Nat):Int).toNat]?=some a0.cells:=by rw[<-hL,ha];rfl
     have M3:=Gl a0 (by rw[ha];simp);rw[a0.ai]at QB;have Ka:=iS k a0.name I_ M3.name;have J_:=e9 (nN k);have LP:=e9 (nM k);have M1:=qo false;have QD:=z8 (fy (fx k a0.name)) (bk (nN k));have QE:=z8 (iB false) (bk (nM k));have HV:=jt (nS k) (jg (fy (fx k a0.name)) (bk (nN k))) q.ps;have M2:=jt (nR k) (jg (iB false) (bk (nM k))) q.ps;have hQ:(mi k L q.ps).map aF.cells=[(fG (nS k) (jg (fy (fx k a0.name)) (bk (nN k))) q.ps).cells,(fG (nR k) (jg (iB false) (bk (nM k))) q.ps).cells,
       dN 3 [] ⟨#[]⟩ [] false (gw 4 0 0 (nS k) [] [] (0,0)) ((L.map (fW k)).map aT.cells) q.ps,dN 3 [] ⟨#[]⟩ [] false (gw 4 0 0 (nA k) [] [] (0,0)) ((L.map (gY k)).map aT.cells) q.ps]:=by
      rw[ha];unfold mi;simp only[List.head?_cons,Option.map_some,Option.getD_some,List.map_cons,List.map_nil,aF.cells,ol];rw[(bk (nS k)).ai,(bk (nA k)).ai];rfl
     rw[cI,cI]at hQ;rw[cI,(jg _ _).ai]at HV M2;rw[(jg _ _).ai,(fy (fx k a0.name)).ai,(bk (nN k)).ai]at QD;rw[(jg _ _).ai,(iB false).ai,(bk (nM k)).ai]at QE;rw[Xp.ai]at Ka J_ LP M1
     repeat refine DC.seq ?_
     apply DC.da mixed
     ·intro s0 Oo;refine aH rfl rfl ?_;refine aP rfl rfl ?_;refine bw rfl rfl GD rfl ?_;refine bo rfl rfl GD rfl rfl ?_;refine bY rfl rfl ?_;refine cx rfl rfl rfl ?_;refine cM rfl rfl rfl (Int.natCast_nonneg 0) QB rfl ?_;refine bY rfl rfl ?_;refine cx rfl rfl rfl ?_;refine bX Ka rfl rfl ?_;refine aP rfl rfl ?_;refine bw rfl rfl GD rfl ?_;refine bX J_ rfl rfl ?_;refine bX QD rfl rfl ?_;refine bY rfl rfl ?_;refine eY rfl rfl rfl ?_;refine bX HV rfl rfl ?_;refine aP rfl rfl ?_;refine bw rfl rfl GD rfl ?_;refine bX M1 rfl rfl ?_;refine aP rfl rfl ?_;refine bw rfl rfl GD rfl ?_;refine bX LP rfl rfl ?_;refine bX QE rfl rfl ?_;refine bY rfl rfl ?_;refine eY rfl rfl rfl ?_;refine bX M2 rfl rfl ?_;refine bo rfl rfl rfl rfl rfl ?_;refine bo rfl rfl rfl rfl rfl ?_;refine bj rfl rfl rfl rfl rfl rfl rfl rfl ?_;refine eA rfl rfl ?_;refine eA rfl rfl ?_;exact TF.nil ⟨by kernel_rfl,rfl⟩
     have w:Wk F H [kR im ⟨k,s.ao++[ni k L q.ps]⟩,.ob it aZ] H1:=by
      refine Wk.close (φ:= λmv:M=>Sep [.ob im (.box [mv,.d (.int .i64 ((k:Nat):Int))]),.acc 4 ((s.ao++[ni k L q.ps]).map En.cells) mv]) ME ?_;refine Wk.join (a:=[_,_]) ?_;rw[show(s.ao++[ni k L q.ps]).map En.cells=EN by rw[Qt];simp[ni,En.cells,aU]];exact((w.drop).drop).drop
     rw[hQ];exact DC.ret ⟨_,rfl,[.ob it aZ,kR im ⟨k,s.ao++[ni k L q.ps]⟩],⟨rfl,rfl⟩,w.pick [1,0]⟩
end Go.Proofs.Pz
