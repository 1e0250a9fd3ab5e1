/- Trees of functions, checked against the program by the kernel. Printed by gen.py. -/
import Derived.Test.YtdjbjfmgdagcgaaXC
namespace Go.Proofs.Ytdjbjfmgdagcgaa
open Go.Fw
set_option maxRecDepth 100000
/-- pagemend/pagemendlaw06.JournalLimits -/
def t15 : Tree :=
 .call 49 [] 1 <|
 .ite (.e1 .not (.var 2)) (
  .ret [.lt (.bool false)]) (
  .join 2 (
   .join 2 (
    .ite (.e2 .ilt (.var 5) (.e2 (.sub .i64) (.lt (.int 4096)) (.e2 .rem (.e1 (.conv .i64) (.var 0)) (.lt (.int 3))))) (
     .guard (.e2 .ile (.e1 .llen (.e2 .app (.var 6) (.e2 .app (.e2 .addc (.e2 .addc (.e2 .addc (.e2 .addc (.e2 .addc (.e2 .addc (.e2 .addc (.e2 .addc (.e2 .addc (.e2 .addc (.e2 .addc (.e2 .addc (.e1 .one (.e2 (.add .i64) (.var 3) (.var 5))) (.lt (.int 8))) (.lt (.int 0))) (.lt (.int 0))) (.lt (.int 0))) (.lt (.int 0))) (.lt (.int 0))) (.lt (.int 0))) (.lt (.bool false))) (.lt (.str []))) (.lt (.bool false))) (.lt (.str []))) (.lt (.str []))) (.lt .nil)))) (.lt (.int 1099511627776))) <|
     .jump 1 [.e2 (.add .i64) (.var 5) (.lt (.int 1)), .e2 .app (.var 6) (.e2 .app (.e2 .addc (.e2 .addc (.e2 .addc (.e2 .addc (.e2 .addc (.e2 .addc (.e2 .addc (.e2 .addc (.e2 .addc (.e2 .addc (.e2 .addc (.e2 .addc (.e1 .one (.e2 (.add .i64) (.var 3) (.var 5))) (.lt (.int 8))) (.lt (.int 0))) (.lt (.int 0))) (.lt (.int 0))) (.lt (.int 0))) (.lt (.int 0))) (.lt (.int 0))) (.lt (.bool false))) (.lt (.str []))) (.lt (.bool false))) (.lt (.str []))) (.lt (.str []))) (.lt .nil))]) (
     .call 50 [.var 3, .var 6, .e2 (.sub .i64) (.var 3) (.lt (.int 1)), .lt (.int 0), .lt (.int 8), .lt (.int 0), .lt (.int 0), .lt (.int 0), .lt (.int 0), .lt (.int 0), .lt (.int 0), .lt (.bool false), .lt (.str []), .lt (.bool false), .lt (.str []), .lt (.str [])] 5 <|
     .ite (.var 1) (
      .ite (.e2 .ine (.var 11) (.lt (.int 21))) (
       .ret [.lt (.bool false)]) (
       .ite (.e2 .ine (.var 10) (.lt (.int 0))) (
        .ret [.lt (.bool false)]) (
        .ite (.e2 .ine (.e1 .llen (.var 8)) (.lt (.int 0))) (
         .ret [.lt (.bool false)]) (
         .call 51 [.var 3, .var 6, .e2 (.sub .i64) (.var 3) (.lt (.int 1)), .var 3] 4 <|
         .call 52 [.var 12, .var 13, .var 14, .e2 (.add .i64) (.var 3) (.lt (.int 1))] 4 <|
         .call 50 [.var 16, .var 17, .var 18, .lt (.int 0), .lt (.int 8), .lt (.int 0), .lt (.int 0), .lt (.int 0), .lt (.int 0), .lt (.int 0), .lt (.int 0), .lt (.bool false), .lt (.str []), .lt (.bool false), .lt (.str []), .lt (.str [])] 5 <|
         .ite (.e2 .ieq (.var 15) (.lt (.int 0))) (
          .ite (.e2 .ieq (.var 19) (.lt (.int 0))) (
           .ite (.e2 .ieq (.e1 .llen (.var 17)) (.e2 (.sub .i64) (.e2 (.sub .i64) (.lt (.int 4096)) (.e2 .rem (.e1 (.conv .i64) (.var 0)) (.lt (.int 3)))) (.lt (.int 1)))) (
            .ite (.e2 .beq (.e2 .ieq (.var 24) (.lt (.int 0))) (.e1 .not (.var 1))) (
             .ite (.var 1) (
              .ret [.lt (.bool true)]) (
              .ret [.e2 .ieq (.var 23) (.e2 (.add .i64) (.e2 (.sub .i64) (.lt (.int 4096)) (.e2 .rem (.e1 (.conv .i64) (.var 0)) (.lt (.int 3)))) (.lt (.int 1)))])) (
             .ret [.lt (.bool false)])) (
            .ret [.lt (.bool false)])) (
           .ret [.lt (.bool false)])) (
          .ret [.lt (.bool false)]))))) (
      .ite (.e2 .ieq (.e2 (.sub .i64) (.lt (.int 4096)) (.e2 .rem (.e1 (.conv .i64) (.var 0)) (.lt (.int 3)))) (.lt (.int 4096))) (
       .ite (.e2 .ine (.var 11) (.lt (.int 21))) (
        .ret [.lt (.bool false)]) (
        .ite (.e2 .ine (.var 10) (.lt (.int 0))) (
         .ret [.lt (.bool false)]) (
         .ite (.e2 .ine (.e1 .llen (.var 8)) (.lt (.int 0))) (
          .ret [.lt (.bool false)]) (
          .call 51 [.var 3, .var 6, .e2 (.sub .i64) (.var 3) (.lt (.int 1)), .var 3] 4 <|
          .call 52 [.var 12, .var 13, .var 14, .e2 (.add .i64) (.var 3) (.lt (.int 1))] 4 <|
          .call 50 [.var 16, .var 17, .var 18, .lt (.int 0), .lt (.int 8), .lt (.int 0), .lt (.int 0), .lt (.int 0), .lt (.int 0), .lt (.int 0), .lt (.int 0), .lt (.bool false), .lt (.str []), .lt (.bool false), .lt (.str []), .lt (.str [])] 5 <|
          .ite (.e2 .ieq (.var 15) (.lt (.int 0))) (
           .ite (.e2 .ieq (.var 19) (.lt (.int 0))) (
            .ite (.e2 .ieq (.e1 .llen (.var 17)) (.e2 (.sub .i64) (.e2 (.sub .i64) (.lt (.int 4096)) (.e2 .rem (.e1 (.conv .i64) (.var 0)) (.lt (.int 3)))) (.lt (.int 1)))) (
             .ite (.e2 .beq (.e2 .ieq (.var 24) (.lt (.int 0))) (.e1 .not (.var 1))) (
              .ite (.var 1) (
               .ret [.lt (.bool true)]) (
               .ret [.e2 .ieq (.var 23) (.e2 (.add .i64) (.e2 (.sub .i64) (.lt (.int 4096)) (.e2 .rem (.e1 (.conv .i64) (.var 0)) (.lt (.int 3)))) (.lt (.int 1)))])) (
              .ret [.lt (.bool false)])) (
             .ret [.lt (.bool false)])) (
            .ret [.lt (.bool false)])) (
           .ret [.lt (.bool false)]))))) (
       .ite (.e2 .ine (.var 11) (.lt (.int 0))) (
        .ret [.lt (.bool false)]) (
        .ite (.e2 .ine (.var 10) (.e2 (.add .i64) (.e2 (.sub .i64) (.lt (.int 4096)) (.e2 .rem (.e1 (.conv .i64) (.var 0)) (.lt (.int 3)))) (.lt (.int 1)))) (
         .ret [.lt (.bool false)]) (
         .call 51 [.var 3, .var 6, .e2 (.sub .i64) (.var 3) (.lt (.int 1)), .var 3] 4 <|
         .call 52 [.var 12, .var 13, .var 14, .e2 (.add .i64) (.var 3) (.lt (.int 1))] 4 <|
         .call 50 [.var 16, .var 17, .var 18, .lt (.int 0), .lt (.int 8), .lt (.int 0), .lt (.int 0), .lt (.int 0), .lt (.int 0), .lt (.int 0), .lt (.int 0), .lt (.bool false), .lt (.str []), .lt (.bool false), .lt (.str []), .lt (.str [])] 5 <|
         .ite (.e2 .ieq (.var 15) (.lt (.int 0))) (
          .ite (.e2 .ieq (.var 19) (.lt (.int 0))) (
           .ite (.e2 .ieq (.e1 .llen (.var 17)) (.e2 (.sub .i64) (.e2 (.sub .i64) (.lt (.int 4096)) (.e2 .rem (.e1 (.conv .i64) (.var 0)) (.lt (.int 3)))) (.lt (.int 1)))) (
            .ite (.e2 .beq (.e2 .ieq (.var 24) (.lt (.int 0))) (.e1 .not (.var 1))) (
             .ite (.var 1) (
              .ret [.lt (.bool true)]) (
              .ret [.e2 .ieq (.var 23) (.e2 (.add .i64) (.e2 (.sub .i64) (.lt (.int 4096)) (.e2 .rem (.e1 (.conv .i64) (.var 0)) (.lt (.int 3)))) (.lt (.int 1)))])) (
             .ret [.lt (.bool false)])) (
            .ret [.lt (.bool false)])) (
           .ret [.lt (.bool false)])) (
          .ret [.lt (.bool false)]))))))) <|
   .jump 1 [.lt (.int 0), .lt .nil]) <|
  .ite (.var 1) (
   .jump 0 [.e2 (.add .i64) (.e2 (.sub .i64) (.lt (.int 1099511627776)) (.e2 (.sub .i64) (.lt (.int 4096)) (.e2 .rem (.e1 (.conv .i64) (.var 0)) (.lt (.int 3))))) (.lt (.int 1)), .lt (.int 0)]) (
   .jump 0 [.lt (.int 1), .lt (.int 0)]))
theorem h15 : symFn K [(9, [.live 7, .obj 0, .kill 23]), (1000007, [.obj 2])] 15 = .ok t15 := by kernel_rfl

/-- pagemend/pagemendlaw34.awake -/
def t16 : Tree :=
 .call 17 [.lt (.int 10)] 4 <|
 .call 18 [.lt (.int 10), .lt (.int 2)] 3 <|
 .ite (.e2 .ieq (.var 3) (.lt (.int 0))) (
  .ite (.e2 .ieq (.e1 .llen (.var 1)) (.lt (.int 3))) (
   .ite (.var 6) (
    .ite (.e2 .ieq (.var 4) (.lt (.int 8))) (
     .ret [.e2 .ieq (.var 5) (.lt (.int 9))]) (
     .ret [.lt (.bool false)])) (
    .ret [.lt (.bool false)])) (
   .ret [.lt (.bool false)])) (
  .ret [.lt (.bool false)])
theorem h16 : symFn K [] 16 = .ok t16 := by kernel_rfl

/-- pagemend/segments.New -/
def t17 : Tree :=
 .ite (.e2 .ilt (.var 0) (.lt (.int 1))) (
  .ret [.lt (.bool false), .lt .nil, .lt .nil, .lt (.int 1)]) (
  .ite (.e2 .igt (.var 0) (.lt (.int 64))) (
   .ret [.lt (.bool false), .lt .nil, .lt .nil, .lt (.int 1)]) (
   .call 53 [.var 0] 1 <|
   .guard (.e2 .ile (.lt (.int 0)) (.var 1)) <|
   .guard (.e2 .ile (.var 1) (.var 1)) <|
   .guard (.e2 .ile (.var 1) (.lt (.int 140737488355328))) <|
   .ret [.lt (.bool true), .e2 .rep (.var 1) (.e1 .one (.lt (.bool false))), .lt .nil, .lt (.int 0)]))
theorem h17 : symFn K [] 17 = .ok t17 := by kernel_rfl

/-- pagemend/segments.Range -/
def t18 : Tree :=
 .ite (.e2 .ilt (.var 0) (.lt (.int 1))) (
  .ret [.lt (.int 0), .lt (.int 0), .lt (.bool false)]) (
  .ite (.e2 .igt (.var 0) (.lt (.int 64))) (
   .ret [.lt (.int 0), .lt (.int 0), .lt (.bool false)]) (
   .ite (.e2 .ilt (.var 1) (.lt (.int 0))) (
    .ret [.lt (.int 0), .lt (.int 0), .lt (.bool false)]) (
    .call 53 [.var 0] 1 <|
    .ite (.e2 .ige (.var 1) (.var 2)) (
     .ret [.lt (.int 0), .lt (.int 0), .lt (.bool false)]) (
     .ret [.e2 (.mul .i64) (.var 1) (.lt (.int 4)), .e2 (.sub .i64) (.e2 .min (.e2 (.add .i64) (.e2 (.mul .i64) (.var 1) (.lt (.int 4))) (.lt (.int 4))) (.var 0)) (.lt (.int 1)), .lt (.bool true)]))))
theorem h18 : symFn K [] 18 = .ok t18 := by kernel_rfl

/-- pagemend/segments.Of -/
def t19 : Tree :=
 .ite (.e2 .ilt (.var 0) (.lt (.int 0))) (
  .ret [.lt (.int (-1))]) (
  .ret [.e2 (.quo .i64) (.var 0) (.lt (.int 4))])
theorem h19 : symFn K [] 19 = .ok t19 := by kernel_rfl

/-- pagemend/segments.There -/
def t20 : Tree :=
 .call 19 [.var 3] 1 <|
 .call 54 [.var 0, .var 1, .var 2] 1 <|
 .ite (.e1 .not (.var 5)) (
  .ret [.lt (.bool false)]) (
  .ite (.e1 .not (.var 0)) (
   .ret [.lt (.bool true)]) (
   .ite (.e2 .ige (.var 4) (.lt (.int 0))) (
    .ite (.e2 .ilt (.var 4) (.e1 .llen (.var 1))) (
     .guard (.e2 .ile (.lt (.int 0)) (.var 4)) <|
     .guard (.e2 .ilt (.var 4) (.e1 .llen (.var 1))) <|
     .ret [.e1 (.cell 0) (.e2 .row (.var 1) (.var 4))]) (
     .ret [.lt (.bool false)])) (
    .ret [.lt (.bool false)])))
theorem h20 : symFn K [] 20 = .ok t20 := by kernel_rfl

/-- pagemend/pagemendlaw01.awake -/
def t21 : Tree :=
 .call 22 [.lt (.str []), .lt (.int 513), .lt (.int 2)] 1 <|
 .call 24 [.var 0, .lt (.int 0), .lt (.int 2)] 2 <|
 .call 26 [.lt (.str [49, 50, 51, 52, 53, 54, 55, 56, 57])] 1 <|
 .ite (.e2 .ieq (.var 3) (.lt (.int 3808858755))) (
  .ite (.e2 .ieq (.var 2) (.lt (.int 0))) (
   .ret [.e2 .ieq (.var 1) (.lt (.int 513))]) (
   .ret [.lt (.bool false)])) (
  .ret [.lt (.bool false)])
theorem h21 : symFn K [] 21 = .ok t21 := by kernel_rfl

/-- pagemend/pagemendref01.Put -/
def t23 : Tree :=
 .ite (.e2 .ilt (.var 2) (.lt (.int 1))) (
  .ret [.var 0]) (
  .ite (.e2 .igt (.var 2) (.lt (.int 8))) (
   .ret [.var 0]) (
   .join 2 (
    .ite (.e2 .ilt (.var 4) (.var 2)) (
     .guard (.e2 .ile (.lt (.int 0)) (.e1 (.conv .u64) (.e2 (.mul .i64) (.lt (.int 8)) (.var 4)))) <|
     .guard (.e2 .ile (.e2 (.add .i64) (.e1 .slen (.var 3)) (.e1 .slen (.e1 .strOf (.e2 .app (.e1 .one (.e1 (.conv .u8) (.e2 (.shr .u64) (.e1 (.conv .u64) (.var 1)) (.e1 (.conv .u64) (.e2 (.mul .i64) (.lt (.int 8)) (.var 4)))))) (.lt .nil))))) (.lt (.int 140737488355328))) <|
     .guard (.e2 .ile (.e1 .slen (.var 3)) (.lt (.int 140737488355328))) <|
     .guard (.e2 .ile (.e1 .slen (.e1 .strOf (.e2 .app (.e1 .one (.e1 (.conv .u8) (.e2 (.shr .u64) (.e1 (.conv .u64) (.var 1)) (.e1 (.conv .u64) (.e2 (.mul .i64) (.lt (.int 8)) (.var 4)))))) (.lt .nil)))) (.lt (.int 140737488355328))) <|
     .jump 0 [.e2 .cat (.var 3) (.e1 .strOf (.e2 .app (.e1 .one (.e1 (.conv .u8) (.e2 (.shr .u64) (.e1 (.conv .u64) (.var 1)) (.e1 (.conv .u64) (.e2 (.mul .i64) (.lt (.int 8)) (.var 4)))))) (.lt .nil))), .e2 (.add .i64) (.var 4) (.lt (.int 1))]) (
     .ret [.var 3])) <|
   .jump 0 [.var 0, .lt (.int 0)]))
theorem h23 : symFn K [(4, [.live 7, .live 0])] 23 = .ok t23 := by kernel_rfl

/-- pagemend/codec.Get -/
def t24 : Tree :=
 .ite (.e2 .ilt (.var 2) (.lt (.int 1))) (
  .ret [.lt (.int 0), .lt (.int 1)]) (
  .ite (.e2 .igt (.var 2) (.lt (.int 8))) (
   .ret [.lt (.int 0), .lt (.int 1)]) (
   .ite (.e2 .ilt (.var 1) (.lt (.int 0))) (
    .ret [.lt (.int 0), .lt (.int 1)]) (
    .ite (.e2 .igt (.var 1) (.e1 .slen (.var 0))) (
     .ret [.lt (.int 0), .lt (.int 5)]) (
     .ite (.e2 .ilt (.e2 (.sub .i64) (.e1 .slen (.var 0)) (.var 1)) (.var 2)) (
      .ret [.lt (.int 0), .lt (.int 5)]) (
      .join 2 (
       .ite (.e2 .ilt (.var 4) (.var 2)) (
        .guard (.e2 .ile (.lt (.int 0)) (.e2 (.add .i64) (.var 1) (.var 4))) <|
        .guard (.e2 .ilt (.e2 (.add .i64) (.var 1) (.var 4)) (.e1 .slen (.var 0))) <|
        .guard (.e2 .ile (.lt (.int 0)) (.e2 (.mul .i64) (.lt (.int 8)) (.var 4))) <|
        .jump 0 [.e2 (.or .u64) (.var 3) (.e2 (.shl .u64) (.e1 (.conv .u64) (.e2 .sidx (.var 0) (.e2 (.add .i64) (.var 1) (.var 4)))) (.e2 (.mul .i64) (.lt (.int 8)) (.var 4))), .e2 (.add .i64) (.var 4) (.lt (.int 1))]) (
        .ret [.e1 (.conv .i64) (.var 3), .lt (.int 0)])) <|
      .jump 0 [.lt (.int 0), .lt (.int 0)])))))
theorem h24 : symFn K [(7, [.live 35, .live 8])] 24 = .ok t24 := by kernel_rfl

/-- pagemend/pagemendref01.Get -/
def t25 : Tree :=
 .ite (.e2 .ilt (.var 2) (.lt (.int 1))) (
  .ret [.lt (.int 0), .lt (.int 1)]) (
  .ite (.e2 .igt (.var 2) (.lt (.int 8))) (
   .ret [.lt (.int 0), .lt (.int 1)]) (
   .ite (.e2 .ilt (.var 1) (.lt (.int 0))) (
    .ret [.lt (.int 0), .lt (.int 1)]) (
    .ite (.e2 .igt (.var 1) (.e1 .slen (.var 0))) (
     .ret [.lt (.int 0), .lt (.int 5)]) (
     .ite (.e2 .ilt (.e2 (.sub .i64) (.e1 .slen (.var 0)) (.var 1)) (.var 2)) (
      .ret [.lt (.int 0), .lt (.int 5)]) (
      .join 2 (
       .ite (.e2 .ilt (.var 4) (.var 2)) (
        .guard (.e2 .ile (.lt (.int 0)) (.e2 (.add .i64) (.var 1) (.var 4))) <|
        .guard (.e2 .ilt (.e2 (.add .i64) (.var 1) (.var 4)) (.e1 .slen (.var 0))) <|
        .guard (.e2 .ile (.lt (.int 0)) (.e1 (.conv .u64) (.e2 (.mul .i64) (.lt (.int 8)) (.var 4)))) <|
        .jump 0 [.e2 (.or .u64) (.var 3) (.e2 (.shl .u64) (.e1 (.conv .u64) (.e2 .sidx (.var 0) (.e2 (.add .i64) (.var 1) (.var 4)))) (.e1 (.conv .u64) (.e2 (.mul .i64) (.lt (.int 8)) (.var 4)))), .e2 (.add .i64) (.var 4) (.lt (.int 1))]) (
        .ret [.e1 (.conv .i64) (.var 3), .lt (.int 0)])) <|
      .jump 0 [.lt (.int 0), .lt (.int 0)])))))
theorem h25 : symFn K [(7, [.live 9, .live 8])] 25 = .ok t25 := by kernel_rfl

/-- pagemend/codec.Sum -/
def t26 : Tree :=
 .call 58 [] 1 <|
 .join 2 (
  .ite (.e2 .ilt (.var 3) (.e1 .slen (.var 0))) (
   .guard (.e2 .ile (.lt (.int 0)) (.var 3)) <|
   .guard (.e2 .ilt (.var 3) (.e1 .slen (.var 0))) <|
   .guard (.e2 .ile (.lt (.int 0)) (.e2 (.and .u32) (.e2 (.xor .u32) (.var 2) (.e1 (.conv .u32) (.e2 .sidx (.var 0) (.var 3)))) (.lt (.int 15)))) <|
   .guard (.e2 .ilt (.e2 (.and .u32) (.e2 (.xor .u32) (.var 2) (.e1 (.conv .u32) (.e2 .sidx (.var 0) (.var 3)))) (.lt (.int 15))) (.lt (.int 16))) <|
   .guard (.e2 .ile (.lt (.int 0)) (.e2 (.and .u32) (.e2 (.xor .u32) (.e2 (.shr .u32) (.e2 (.xor .u32) (.var 2) (.e1 (.conv .u32) (.e2 .sidx (.var 0) (.var 3)))) (.lt (.int 4))) (.e1 (.cell 0) (.e2 .row (.var 1) (.e2 (.and .u32) (.e2 (.xor .u32) (.var 2) (.e1 (.conv .u32) (.e2 .sidx (.var 0) (.var 3)))) (.lt (.int 15)))))) (.lt (.int 15)))) <|
   .guard (.e2 .ilt (.e2 (.and .u32) (.e2 (.xor .u32) (.e2 (.shr .u32) (.e2 (.xor .u32) (.var 2) (.e1 (.conv .u32) (.e2 .sidx (.var 0) (.var 3)))) (.lt (.int 4))) (.e1 (.cell 0) (.e2 .row (.var 1) (.e2 (.and .u32) (.e2 (.xor .u32) (.var 2) (.e1 (.conv .u32) (.e2 .sidx (.var 0) (.var 3)))) (.lt (.int 15)))))) (.lt (.int 15))) (.lt (.int 16))) <|
   .jump 0 [.e2 (.xor .u32) (.e2 (.shr .u32) (.e2 (.xor .u32) (.e2 (.shr .u32) (.e2 (.xor .u32) (.var 2) (.e1 (.conv .u32) (.e2 .sidx (.var 0) (.var 3)))) (.lt (.int 4))) (.e1 (.cell 0) (.e2 .row (.var 1) (.e2 (.and .u32) (.e2 (.xor .u32) (.var 2) (.e1 (.conv .u32) (.e2 .sidx (.var 0) (.var 3)))) (.lt (.int 15)))))) (.lt (.int 4))) (.e1 (.cell 0) (.e2 .row (.var 1) (.e2 (.and .u32) (.e2 (.xor .u32) (.e2 (.shr .u32) (.e2 (.xor .u32) (.var 2) (.e1 (.conv .u32) (.e2 .sidx (.var 0) (.var 3)))) (.lt (.int 4))) (.e1 (.cell 0) (.e2 .row (.var 1) (.e2 (.and .u32) (.e2 (.xor .u32) (.var 2) (.e1 (.conv .u32) (.e2 .sidx (.var 0) (.var 3)))) (.lt (.int 15)))))) (.lt (.int 15))))), .e2 (.add .i64) (.var 3) (.lt (.int 1))]) (
   .ret [.e1 (.cpl .u32) (.var 2)])) <|
 .jump 0 [.lt (.int 4294967295), .lt (.int 0)]
theorem h26 : symFn K [(4, [.live 9, .live 4])] 26 = .ok t26 := by kernel_rfl

/-- pagemend/pagemenddraw.New -/
def t27 : Tree :=
 .ite (.e2 .igt (.e1 .llen (.var 0)) (.var 1)) (
  .guard (.e2 .ile (.lt (.int 0)) (.var 1)) <|
  .guard (.e2 .ile (.var 1) (.e1 .llen (.var 0))) <|
  .guard (.e2 .ile (.lt (.int 0)) (.var 1)) <|
  .ret [.e3 .lsub (.var 0) (.lt (.int 0)) (.var 1), .lt (.int 0)]) (
  .ret [.var 0, .lt (.int 0)])
theorem h27 : symFn K [] 27 = .ok t27 := by kernel_rfl

/-- pagemend/pagemendref01.Frame -/
def t28 : Tree :=
 .ite (.e2 .igt (.e1 .slen (.var 0)) (.lt (.int 8392))) (
  .ret [.lt (.str [])]) (
  .call 23 [.lt (.str []), .e1 .slen (.var 0), .lt (.int 4)] 1 <|
  .guard (.e2 .ile (.e2 (.add .i64) (.e1 .slen (.var 1)) (.e1 .slen (.var 0))) (.lt (.int 140737488355328))) <|
  .guard (.e2 .ile (.e1 .slen (.var 1)) (.lt (.int 140737488355328))) <|
  .guard (.e2 .ile (.e1 .slen (.var 0)) (.lt (.int 140737488355328))) <|
  .call 33 [.e2 .cat (.var 1) (.var 0)] 1 <|
  .call 23 [.e2 .cat (.var 1) (.var 0), .e1 (.conv .i64) (.var 2), .lt (.int 4)] 1 <|
  .ret [.var 3])
theorem h28 : symFn K [] 28 = .ok t28 := by kernel_rfl

/-- (*pagemend/pagemenddraw.Codes).Spoilt -/
def t29 : Tree :=
 .ite (.e2 .ieq (.e1 .slen (.var 2)) (.lt (.int 0))) (
  .call 30 [.var 0, .var 1, .lt (.int 256)] 3 <|
  .ret [.e1 .strOf (.e2 .app (.e1 .one (.e1 (.conv .u8) (.var 3))) (.lt .nil)), .var 4, .var 5]) (
  .call 30 [.var 0, .var 1, .e1 .slen (.var 2)] 3 <|
  .call 30 [.var 4, .var 5, .lt (.int 4)] 3 <|
  .ite (.e2 .ieq (.var 6) (.lt (.int 0))) (
   .guard (.e2 .ile (.lt (.int 0)) (.var 3)) <|
   .guard (.e2 .ile (.var 3) (.e1 .slen (.var 2))) <|
   .guard (.e2 .ile (.lt (.int 0)) (.var 3)) <|
   .guard (.e2 .ile (.lt (.int 0)) (.e1 .slen (.var 2))) <|
   .guard (.e2 .ile (.e1 .slen (.var 2)) (.e1 .slen (.var 2))) <|
   .guard (.e2 .ile (.lt (.int 0)) (.e2 (.add .i64) (.var 3) (.lt (.int 1)))) <|
   .guard (.e2 .ile (.e2 (.add .i64) (.var 3) (.lt (.int 1))) (.e1 .slen (.var 2))) <|
   .guard (.e2 .ile (.e2 (.add .i64) (.e1 .slen (.e3 .ssub (.var 2) (.lt (.int 0)) (.var 3))) (.e1 .slen (.e3 .ssub (.var 2) (.e2 (.add .i64) (.var 3) (.lt (.int 1))) (.e1 .slen (.var 2))))) (.lt (.int 140737488355328))) <|
   .guard (.e2 .ile (.e1 .slen (.e3 .ssub (.var 2) (.lt (.int 0)) (.var 3))) (.lt (.int 140737488355328))) <|
   .guard (.e2 .ile (.e1 .slen (.e3 .ssub (.var 2) (.e2 (.add .i64) (.var 3) (.lt (.int 1))) (.e1 .slen (.var 2)))) (.lt (.int 140737488355328))) <|
   .ret [.e2 .cat (.e3 .ssub (.var 2) (.lt (.int 0)) (.var 3)) (.e3 .ssub (.var 2) (.e2 (.add .i64) (.var 3) (.lt (.int 1))) (.e1 .slen (.var 2))), .var 7, .var 8]) (
   .ite (.e2 .ieq (.var 6) (.lt (.int 1))) (
    .call 30 [.var 7, .var 8, .lt (.int 256)] 3 <|
    .guard (.e2 .ile (.e2 (.add .i64) (.e1 .slen (.var 2)) (.e1 .slen (.e1 .strOf (.e2 .app (.e1 .one (.e1 (.conv .u8) (.var 9))) (.lt .nil))))) (.lt (.int 140737488355328))) <|
    .guard (.e2 .ile (.e1 .slen (.var 2)) (.lt (.int 140737488355328))) <|
    .guard (.e2 .ile (.e1 .slen (.e1 .strOf (.e2 .app (.e1 .one (.e1 (.conv .u8) (.var 9))) (.lt .nil)))) (.lt (.int 140737488355328))) <|
    .ret [.e2 .cat (.var 2) (.e1 .strOf (.e2 .app (.e1 .one (.e1 (.conv .u8) (.var 9))) (.lt .nil))), .var 10, .var 11]) (
    .guard (.e2 .ile (.lt (.int 0)) (.var 3)) <|
    .guard (.e2 .ile (.var 3) (.e1 .slen (.var 2))) <|
    .guard (.e2 .ile (.lt (.int 0)) (.var 3)) <|
    .guard (.e2 .ile (.lt (.int 0)) (.var 3)) <|
    .guard (.e2 .ilt (.var 3) (.e1 .slen (.var 2))) <|
    .call 30 [.var 7, .var 8, .lt (.int 255)] 3 <|
    .guard (.e2 .ile (.e2 (.add .i64) (.e1 .slen (.e3 .ssub (.var 2) (.lt (.int 0)) (.var 3))) (.e1 .slen (.e1 .strOf (.e2 .app (.e1 .one (.e2 (.xor .u8) (.e2 .sidx (.var 2) (.var 3)) (.e1 (.conv .u8) (.e2 (.add .i64) (.lt (.int 1)) (.var 9))))) (.lt .nil))))) (.lt (.int 140737488355328))) <|
    .guard (.e2 .ile (.e1 .slen (.e3 .ssub (.var 2) (.lt (.int 0)) (.var 3))) (.lt (.int 140737488355328))) <|
    .guard (.e2 .ile (.e1 .slen (.e1 .strOf (.e2 .app (.e1 .one (.e2 (.xor .u8) (.e2 .sidx (.var 2) (.var 3)) (.e1 (.conv .u8) (.e2 (.add .i64) (.lt (.int 1)) (.var 9))))) (.lt .nil)))) (.lt (.int 140737488355328))) <|
    .guard (.e2 .ile (.lt (.int 0)) (.e1 .slen (.var 2))) <|
    .guard (.e2 .ile (.e1 .slen (.var 2)) (.e1 .slen (.var 2))) <|
    .guard (.e2 .ile (.lt (.int 0)) (.e2 (.add .i64) (.var 3) (.lt (.int 1)))) <|
    .guard (.e2 .ile (.e2 (.add .i64) (.var 3) (.lt (.int 1))) (.e1 .slen (.var 2))) <|
    .guard (.e2 .ile (.e2 (.add .i64) (.e1 .slen (.e2 .cat (.e3 .ssub (.var 2) (.lt (.int 0)) (.var 3)) (.e1 .strOf (.e2 .app (.e1 .one (.e2 (.xor .u8) (.e2 .sidx (.var 2) (.var 3)) (.e1 (.conv .u8) (.e2 (.add .i64) (.lt (.int 1)) (.var 9))))) (.lt .nil))))) (.e1 .slen (.e3 .ssub (.var 2) (.e2 (.add .i64) (.var 3) (.lt (.int 1))) (.e1 .slen (.var 2))))) (.lt (.int 140737488355328))) <|
    .guard (.e2 .ile (.e1 .slen (.e2 .cat (.e3 .ssub (.var 2) (.lt (.int 0)) (.var 3)) (.e1 .strOf (.e2 .app (.e1 .one (.e2 (.xor .u8) (.e2 .sidx (.var 2) (.var 3)) (.e1 (.conv .u8) (.e2 (.add .i64) (.lt (.int 1)) (.var 9))))) (.lt .nil))))) (.lt (.int 140737488355328))) <|
    .guard (.e2 .ile (.e1 .slen (.e3 .ssub (.var 2) (.e2 (.add .i64) (.var 3) (.lt (.int 1))) (.e1 .slen (.var 2)))) (.lt (.int 140737488355328))) <|
    .ret [.e2 .cat (.e2 .cat (.e3 .ssub (.var 2) (.lt (.int 0)) (.var 3)) (.e1 .strOf (.e2 .app (.e1 .one (.e2 (.xor .u8) (.e2 .sidx (.var 2) (.var 3)) (.e1 (.conv .u8) (.e2 (.add .i64) (.lt (.int 1)) (.var 9))))) (.lt .nil)))) (.e3 .ssub (.var 2) (.e2 (.add .i64) (.var 3) (.lt (.int 1))) (.e1 .slen (.var 2))), .var 10, .var 11])))
theorem h29 : symFn K [] 29 = .ok t29 := by kernel_rfl

/-- (*pagemend/pagemenddraw.Codes).Next -/
def t30 : Tree :=
 .ite (.e2 .ige (.var 1) (.e1 .llen (.var 0))) (
  .ret [.lt (.int 0), .var 0, .var 1]) (
  .ite (.e2 .ilt (.var 2) (.lt (.int 1))) (
   .ret [.lt (.int 0), .var 0, .var 1]) (
   .guard (.e2 .ile (.lt (.int 0)) (.var 1)) <|
   .guard (.e2 .ilt (.var 1) (.e1 .llen (.var 0))) <|
   .ite (.e2 .igt (.var 2) (.lt (.int 256))) (
    .call 30 [.var 0, .e2 (.add .i64) (.var 1) (.lt (.int 1)), .lt (.int 256)] 3 <|
    .guard (.e2 .ine (.var 2) (.lt (.int 0))) <|
    .ret [.e2 .rem (.e2 (.add .i64) (.e2 (.mul .i64) (.lt (.int 256)) (.e1 (.conv .i64) (.e1 (.cell 0) (.e2 .row (.var 0) (.var 1))))) (.var 3)) (.var 2), .var 4, .var 5]) (
    .guard (.e2 .ine (.var 2) (.lt (.int 0))) <|
    .ret [.e2 .rem (.e1 (.conv .i64) (.e1 (.cell 0) (.e2 .row (.var 0) (.var 1)))) (.var 2), .var 0, .e2 (.add .i64) (.var 1) (.lt (.int 1))])))
theorem h30 : symFn K [] 30 = .ok t30 := by kernel_rfl

/-- pagemend/codec.Unframe -/
def t31 : Tree :=
 .ite (.e2 .ilt (.var 1) (.lt (.int 0))) (
  .ret [.lt (.str []), .lt (.int 0), .lt (.int 1)]) (
  .ite (.e2 .igt (.var 1) (.e1 .slen (.var 0))) (
   .ret [.lt (.str []), .lt (.int 0), .lt (.int 1)]) (
   .call 24 [.var 0, .var 1, .lt (.int 4)] 2 <|
   .ite (.e2 .ine (.var 3) (.lt (.int 0))) (
    .ret [.lt (.str []), .lt (.int 0), .var 3]) (
    .ite (.e2 .igt (.var 2) (.lt (.int 8392))) (
     .ret [.lt (.str []), .lt (.int 0), .lt (.int 2)]) (
     .call 24 [.var 0, .e2 (.add .i64) (.e2 (.add .i64) (.var 1) (.lt (.int 4))) (.var 2), .lt (.int 4)] 2 <|
     .ite (.e2 .ine (.var 5) (.lt (.int 0))) (
      .ret [.lt (.str []), .lt (.int 0), .var 5]) (
      .guard (.e2 .ile (.lt (.int 0)) (.e2 (.add .i64) (.e2 (.add .i64) (.var 1) (.lt (.int 4))) (.var 2))) <|
      .guard (.e2 .ile (.e2 (.add .i64) (.e2 (.add .i64) (.var 1) (.lt (.int 4))) (.var 2)) (.e1 .slen (.var 0))) <|
      .guard (.e2 .ile (.lt (.int 0)) (.var 1)) <|
      .guard (.e2 .ile (.var 1) (.e2 (.add .i64) (.e2 (.add .i64) (.var 1) (.lt (.int 4))) (.var 2))) <|
      .call 26 [.e3 .ssub (.var 0) (.var 1) (.e2 (.add .i64) (.e2 (.add .i64) (.var 1) (.lt (.int 4))) (.var 2))] 1 <|
      .ite (.e2 .ine (.var 4) (.e1 (.conv .i64) (.var 6))) (
       .ret [.lt (.str []), .lt (.int 0), .lt (.int 3)]) (
       .guard (.e2 .ile (.lt (.int 0)) (.e2 (.add .i64) (.e2 (.add .i64) (.var 1) (.lt (.int 4))) (.var 2))) <|
       .guard (.e2 .ile (.e2 (.add .i64) (.e2 (.add .i64) (.var 1) (.lt (.int 4))) (.var 2)) (.e1 .slen (.var 0))) <|
       .guard (.e2 .ile (.lt (.int 0)) (.e2 (.add .i64) (.var 1) (.lt (.int 4)))) <|
       .guard (.e2 .ile (.e2 (.add .i64) (.var 1) (.lt (.int 4))) (.e2 (.add .i64) (.e2 (.add .i64) (.var 1) (.lt (.int 4))) (.var 2))) <|
       .ret [.e3 .ssub (.var 0) (.e2 (.add .i64) (.var 1) (.lt (.int 4))) (.e2 (.add .i64) (.e2 (.add .i64) (.var 1) (.lt (.int 4))) (.var 2)), .e2 (.add .i64) (.e2 (.add .i64) (.e2 (.add .i64) (.var 1) (.lt (.int 4))) (.var 2)) (.lt (.int 4)), .lt (.int 0)]))))))
theorem h31 : symFn K [] 31 = .ok t31 := by kernel_rfl

/-- pagemend/pagemendref01.Unframe -/
def t32 : Tree :=
 .ite (.e2 .ilt (.var 1) (.lt (.int 0))) (
  .ret [.lt (.str []), .lt (.int 0), .lt (.int 1)]) (
  .ite (.e2 .igt (.var 1) (.e1 .slen (.var 0))) (
   .ret [.lt (.str []), .lt (.int 0), .lt (.int 1)]) (
   .call 25 [.var 0, .var 1, .lt (.int 4)] 2 <|
   .ite (.e2 .ine (.var 3) (.lt (.int 0))) (
    .ret [.lt (.str []), .lt (.int 0), .lt (.int 5)]) (
    .ite (.e2 .igt (.var 2) (.lt (.int 8392))) (
     .ret [.lt (.str []), .lt (.int 0), .lt (.int 2)]) (
     .ite (.e2 .ilt (.e2 (.sub .i64) (.e1 .slen (.var 0)) (.var 1)) (.e2 (.add .i64) (.var 2) (.lt (.int 8)))) (
      .ret [.lt (.str []), .lt (.int 0), .lt (.int 5)]) (
      .call 25 [.var 0, .e2 (.add .i64) (.e2 (.add .i64) (.var 1) (.lt (.int 4))) (.var 2), .lt (.int 4)] 2 <|
      .guard (.e2 .ile (.lt (.int 0)) (.e2 (.add .i64) (.e2 (.add .i64) (.var 1) (.lt (.int 4))) (.var 2))) <|
      .guard (.e2 .ile (.e2 (.add .i64) (.e2 (.add .i64) (.var 1) (.lt (.int 4))) (.var 2)) (.e1 .slen (.var 0))) <|
      .guard (.e2 .ile (.lt (.int 0)) (.var 1)) <|
      .guard (.e2 .ile (.var 1) (.e2 (.add .i64) (.e2 (.add .i64) (.var 1) (.lt (.int 4))) (.var 2))) <|
      .call 33 [.e3 .ssub (.var 0) (.var 1) (.e2 (.add .i64) (.e2 (.add .i64) (.var 1) (.lt (.int 4))) (.var 2))] 1 <|
      .ite (.e2 .ine (.e1 (.conv .u32) (.var 4)) (.var 6)) (
       .ret [.lt (.str []), .lt (.int 0), .lt (.int 3)]) (
       .guard (.e2 .ile (.lt (.int 0)) (.e2 (.add .i64) (.e2 (.add .i64) (.var 1) (.lt (.int 4))) (.var 2))) <|
       .guard (.e2 .ile (.e2 (.add .i64) (.e2 (.add .i64) (.var 1) (.lt (.int 4))) (.var 2)) (.e1 .slen (.var 0))) <|
       .guard (.e2 .ile (.lt (.int 0)) (.e2 (.add .i64) (.var 1) (.lt (.int 4)))) <|
       .guard (.e2 .ile (.e2 (.add .i64) (.var 1) (.lt (.int 4))) (.e2 (.add .i64) (.e2 (.add .i64) (.var 1) (.lt (.int 4))) (.var 2))) <|
       .ret [.e3 .ssub (.var 0) (.e2 (.add .i64) (.var 1) (.lt (.int 4))) (.e2 (.add .i64) (.e2 (.add .i64) (.var 1) (.lt (.int 4))) (.var 2)), .e2 (.add .i64) (.e2 (.add .i64) (.var 1) (.lt (.int 8))) (.var 2), .lt (.int 0)]))))))
theorem h32 : symFn K [] 32 = .ok t32 := by kernel_rfl

/-- pagemend/pagemendref01.Sum -/
def t33 : Tree :=
 .join 2 (
  .ite (.e2 .ilt (.var 2) (.e1 .slen (.var 0))) (
   .guard (.e2 .ile (.lt (.int 0)) (.var 2)) <|
   .guard (.e2 .ilt (.var 2) (.e1 .slen (.var 0))) <|
   .join 2 (
    .ite (.e2 .ilt (.var 4) (.lt (.int 8))) (
     .ite (.e2 .ieq (.e2 (.and .u32) (.var 3) (.lt (.int 1))) (.lt (.int 1))) (
      .jump 1 [.e2 (.xor .u32) (.e2 (.shr .u32) (.var 3) (.lt (.int 1))) (.lt (.int 2197175160)), .e2 (.add .i64) (.var 4) (.lt (.int 1))]) (
      .jump 1 [.e2 (.shr .u32) (.var 3) (.lt (.int 1)), .e2 (.add .i64) (.var 4) (.lt (.int 1))])) (
     .jump 0 [.var 3, .e2 (.add .i64) (.var 2) (.lt (.int 1))])) <|
   .jump 1 [.e2 (.xor .u32) (.var 1) (.e1 (.conv .u32) (.e2 .sidx (.var 0) (.var 2))), .lt (.int 0)]) (
   .ret [.e1 (.cpl .u32) (.var 1)])) <|
 .jump 0 [.lt (.int 4294967295), .lt (.int 0)]
theorem h33 : symFn K [(3, [.live 4, .live 3]), (7, [.live 5, .live 3])] 33 = .ok t33 := by kernel_rfl

/-- pagemend/codec.Frame -/
def t34 : Tree :=
 .ite (.e2 .igt (.e1 .slen (.var 0)) (.lt (.int 8392))) (
  .ret [.lt (.str [])]) (
  .call 22 [.lt (.str []), .e1 .slen (.var 0), .lt (.int 4)] 1 <|
  .guard (.e2 .ile (.e2 (.add .i64) (.e1 .slen (.var 1)) (.e1 .slen (.var 0))) (.lt (.int 140737488355328))) <|
  .guard (.e2 .ile (.e1 .slen (.var 1)) (.lt (.int 140737488355328))) <|
  .guard (.e2 .ile (.e1 .slen (.var 0)) (.lt (.int 140737488355328))) <|
  .call 26 [.e2 .cat (.var 1) (.var 0)] 1 <|
  .call 22 [.e2 .cat (.var 1) (.var 0), .e1 (.conv .i64) (.var 2), .lt (.int 4)] 1 <|
  .ret [.var 3])
theorem h34 : symFn K [] 34 = .ok t34 := by kernel_rfl

/-- pagemend/segments.Ask -/
def t35 : Tree :=
 .call 59 [.var 0, .var 1, .var 2, .var 3] 1 <|
 .ite (.e2 .ine (.var 4) (.lt (.int 0))) (
  .ret [.lt (.bool false), .lt .nil, .lt .nil, .var 4]) (
  .guard (.e2 .ile (.lt (.int 0)) (.var 3)) <|
  .guard (.e2 .ilt (.var 3) (.e1 .llen (.var 1))) <|
  .ite (.e1 .not (.e1 (.cell 0) (.e2 .row (.var 1) (.var 3)))) (
   .call 60 [.var 2, .var 3] 1 <|
   .ite (.e1 .not (.var 5)) (
    .call 61 [.var 2] 1 <|
    .guard (.e2 .ile (.e1 .llen (.e2 .app (.var 6) (.e2 .app (.e1 .one (.var 3)) (.lt .nil)))) (.lt (.int 17592186044416))) <|
    .ret [.var 0, .var 1, .e2 .app (.var 6) (.e2 .app (.e1 .one (.var 3)) (.lt .nil)), .lt (.int 0)]) (
    .ret [.var 0, .var 1, .var 2, .lt (.int 0)])) (
   .ret [.var 0, .var 1, .var 2, .lt (.int 0)]))
theorem h35 : symFn K [] 35 = .ok t35 := by kernel_rfl

/-- pagemend/segments.Next -/
def t36 : Tree :=
 .call 54 [.var 0, .var 1, .var 2] 1 <|
 .ite (.e1 .not (.var 3)) (
  .ret [.lt (.int 0), .lt (.bool false)]) (
  .ite (.e1 .not (.var 0)) (
   .ret [.lt (.int 0), .lt (.bool false)]) (
   .ite (.e2 .igt (.e1 .llen (.var 2)) (.lt (.int 0))) (
    .guard (.e2 .ilt (.lt (.int 0)) (.e1 .llen (.var 2))) <|
    .ret [.e1 (.cell 0) (.e2 .row (.var 2) (.lt (.int 0))), .lt (.bool true)]) (
    .call 62 [.var 1, .lt (.bool false)] 1 <|
    .ret [.var 4, .lt (.bool true)])))
theorem h36 : symFn K [] 36 = .ok t36 := by kernel_rfl

/-- pagemend/pagemendlaw05.awake -/
def t38 : Tree :=
 .call 43 [.lt (.int 9), .lt (.int 3), .lt (.int 2), .lt (.int 8), .lt (.int 0), .lt (.int 0), .lt (.int 0), .lt (.int 0), .lt (.bool false), .lt (.str []), .lt (.bool false), .lt (.str []), .lt (.str [])] 2 <|
 .call 41 [.var 0] 14 <|
 .ite (.e2 .ieq (.var 1) (.lt (.int 0))) (
  .ite (.e2 .ieq (.var 15) (.lt (.int 0))) (
   .ite (.e2 .ieq (.e1 .slen (.var 0)) (.lt (.int 48))) (
    .ite (.e2 .ieq (.var 2) (.lt (.int 9))) (
     .ret [.e2 .ieq (.var 4) (.lt (.int 2))]) (
     .ret [.lt (.bool false)])) (
    .ret [.lt (.bool false)])) (
   .ret [.lt (.bool false)])) (
  .ret [.lt (.bool false)])
theorem h38 : symFn K [] 38 = .ok t38 := by kernel_rfl

/-- pagemend/pagemendref05.Encode -/
def t39 : Tree :=
 .call 45 [.var 0, .var 1, .var 2, .var 3, .var 4, .var 5, .var 6, .var 7, .var 8, .var 9, .var 10, .var 11, .var 12] 1 <|
 .ite (.e1 .not (.var 13)) (
  .ret [.lt (.str []), .lt (.int 12)]) (
  .call 23 [.lt (.str []), .var 0, .lt (.int 8)] 1 <|
  .call 23 [.var 14, .var 1, .lt (.int 1)] 1 <|
  .call 23 [.var 15, .var 2, .lt (.int 4)] 1 <|
  .call 23 [.var 16, .var 3, .lt (.int 8)] 1 <|
  .call 23 [.var 17, .var 4, .lt (.int 8)] 1 <|
  .call 23 [.var 18, .var 5, .lt (.int 8)] 1 <|
  .call 23 [.var 19, .var 6, .lt (.int 4)] 1 <|
  .call 23 [.var 20, .var 7, .lt (.int 1)] 1 <|
  .call 67 [.var 21, .var 8, .var 9] 1 <|
  .call 67 [.var 22, .var 10, .var 11] 1 <|
  .call 23 [.var 23, .e1 .slen (.var 12), .lt (.int 4)] 1 <|
  .guard (.e2 .ile (.e2 (.add .i64) (.e1 .slen (.var 24)) (.e1 .slen (.var 12))) (.lt (.int 140737488355328))) <|
  .guard (.e2 .ile (.e1 .slen (.var 24)) (.lt (.int 140737488355328))) <|
  .guard (.e2 .ile (.e1 .slen (.var 12)) (.lt (.int 140737488355328))) <|
  .ret [.e2 .cat (.var 24) (.var 12), .lt (.int 0)])
theorem h39 : symFn K [] 39 = .ok t39 := by kernel_rfl

/-- (*pagemend/pagemenddraw.Codes).Entry -/
def t40 : Tree :=
 .call 30 [.var 0, .var 1, .lt (.int 90)] 3 <|
 .call 30 [.var 3, .var 4, .lt (.int 8)] 3 <|
 .join 1 (
  .ite (.var 8) (
   .call 30 [.var 6, .var 7, .lt (.int 5)] 3 <|
   .call 30 [.var 10, .var 11, .lt (.int 9)] 3 <|
   .call 30 [.var 13, .var 14, .lt (.int 10)] 3 <|
   .call 68 [.var 16, .var 17] 8 <|
   .ite (.e2 .ieq (.e2 (.add .i64) (.lt (.int 1)) (.var 5)) (.lt (.int 2))) (
    .call 30 [.var 24, .var 25, .e2 (.add .i64) (.lt (.int 1)) (.var 12)] 3 <|
    .ret [.e2 (.add .i64) (.lt (.int 10)) (.var 2), .e2 (.add .i64) (.lt (.int 1)) (.var 5), .e2 (.add .i64) (.lt (.int 1)) (.var 9), .e2 (.add .i64) (.lt (.int 1)) (.var 12), .var 15, .e2 (.add .i64) (.lt (.int 1)) (.var 26), .var 18, .var 19, .var 20, .var 21, .var 22, .var 23, .lt (.str []), .var 27, .var 28]) (
    .ret [.e2 (.add .i64) (.lt (.int 10)) (.var 2), .e2 (.add .i64) (.lt (.int 1)) (.var 5), .e2 (.add .i64) (.lt (.int 1)) (.var 9), .e2 (.add .i64) (.lt (.int 1)) (.var 12), .var 15, .lt (.int 0), .var 18, .var 19, .var 20, .var 21, .var 22, .var 23, .lt (.str []), .var 24, .var 25])) (
   .ite (.e2 .ieq (.e2 (.add .i64) (.lt (.int 1)) (.var 5)) (.lt (.int 3))) (
    .ite (.e2 .ieq (.e2 (.add .i64) (.lt (.int 1)) (.var 5)) (.lt (.int 3))) (
     .call 30 [.var 6, .var 7, .lt (.int 5)] 3 <|
     .call 30 [.var 10, .var 11, .lt (.int 9)] 3 <|
     .ret [.e2 (.add .i64) (.lt (.int 10)) (.var 2), .e2 (.add .i64) (.lt (.int 1)) (.var 5), .e2 (.add .i64) (.lt (.int 1)) (.var 9), .e2 (.add .i64) (.lt (.int 1)) (.var 12), .lt (.int 0), .lt (.int 0), .lt (.int 0), .lt (.int 0), .lt (.bool false), .lt (.str []), .lt (.bool false), .lt (.str []), .lt (.str []), .var 13, .var 14]) (
     .ite (.e2 .ieq (.e2 (.add .i64) (.lt (.int 1)) (.var 5)) (.lt (.int 6))) (
      .ite (.e2 .ieq (.e2 (.add .i64) (.lt (.int 1)) (.var 5)) (.lt (.int 6))) (
       .call 69 [.var 6, .var 7] 3 <|
       .ret [.e2 (.add .i64) (.lt (.int 10)) (.var 2), .e2 (.add .i64) (.lt (.int 1)) (.var 5), .lt (.int 0), .lt (.int 0), .lt (.int 0), .lt (.int 0), .lt (.int 0), .lt (.int 0), .lt (.bool false), .lt (.str []), .lt (.bool false), .lt (.str []), .var 9, .var 10, .var 11]) (
       .ite (.e2 .ieq (.e2 (.add .i64) (.lt (.int 1)) (.var 5)) (.lt (.int 7))) (
        .call 30 [.var 6, .var 7, .lt (.int 4)] 3 <|
        .call 30 [.var 10, .var 11, .lt (.int 10)] 3 <|
        .ret [.e2 (.add .i64) (.lt (.int 10)) (.var 2), .e2 (.add .i64) (.lt (.int 1)) (.var 5), .lt (.int 0), .lt (.int 0), .lt (.int 0), .var 12, .var 9, .lt (.int 0), .lt (.bool false), .lt (.str []), .lt (.bool false), .lt (.str []), .lt (.str []), .var 13, .var 14]) (
        .ret [.e2 (.add .i64) (.lt (.int 10)) (.var 2), .e2 (.add .i64) (.lt (.int 1)) (.var 5), .lt (.int 0), .lt (.int 0), .lt (.int 0), .lt (.int 0), .lt (.int 0), .lt (.int 0), .lt (.bool false), .lt (.str []), .lt (.bool false), .lt (.str []), .lt (.str []), .var 6, .var 7]))) (
      .ite (.e2 .ieq (.e2 (.add .i64) (.lt (.int 1)) (.var 5)) (.lt (.int 8))) (
       .call 69 [.var 6, .var 7] 3 <|
       .ret [.e2 (.add .i64) (.lt (.int 10)) (.var 2), .e2 (.add .i64) (.lt (.int 1)) (.var 5), .lt (.int 0), .lt (.int 0), .lt (.int 0), .lt (.int 0), .lt (.int 0), .lt (.int 0), .lt (.bool false), .lt (.str []), .lt (.bool false), .lt (.str []), .var 9, .var 10, .var 11]) (
       .ite (.e2 .ieq (.e2 (.add .i64) (.lt (.int 1)) (.var 5)) (.lt (.int 7))) (
        .call 30 [.var 6, .var 7, .lt (.int 4)] 3 <|
        .call 30 [.var 10, .var 11, .lt (.int 10)] 3 <|
        .ret [.e2 (.add .i64) (.lt (.int 10)) (.var 2), .e2 (.add .i64) (.lt (.int 1)) (.var 5), .lt (.int 0), .lt (.int 0), .lt (.int 0), .var 12, .var 9, .lt (.int 0), .lt (.bool false), .lt (.str []), .lt (.bool false), .lt (.str []), .lt (.str []), .var 13, .var 14]) (
        .ret [.e2 (.add .i64) (.lt (.int 10)) (.var 2), .e2 (.add .i64) (.lt (.int 1)) (.var 5), .lt (.int 0), .lt (.int 0), .lt (.int 0), .lt (.int 0), .lt (.int 0), .lt (.int 0), .lt (.bool false), .lt (.str []), .lt (.bool false), .lt (.str []), .lt (.str []), .var 6, .var 7]))))) (
    .ite (.e2 .ieq (.e2 (.add .i64) (.lt (.int 1)) (.var 5)) (.lt (.int 4))) (
     .ite (.e2 .ieq (.e2 (.add .i64) (.lt (.int 1)) (.var 5)) (.lt (.int 4))) (
      .call 30 [.var 6, .var 7, .lt (.int 5)] 3 <|
      .call 30 [.var 10, .var 11, .lt (.int 9)] 3 <|
      .ret [.e2 (.add .i64) (.lt (.int 10)) (.var 2), .e2 (.add .i64) (.lt (.int 1)) (.var 5), .e2 (.add .i64) (.lt (.int 1)) (.var 9), .e2 (.add .i64) (.lt (.int 1)) (.var 12), .lt (.int 0), .lt (.int 0), .lt (.int 0), .lt (.int 0), .lt (.bool false), .lt (.str []), .lt (.bool false), .lt (.str []), .lt (.str []), .var 13, .var 14]) (
      .ite (.e2 .ieq (.e2 (.add .i64) (.lt (.int 1)) (.var 5)) (.lt (.int 6))) (
       .ite (.e2 .ieq (.e2 (.add .i64) (.lt (.int 1)) (.var 5)) (.lt (.int 6))) (
        .call 69 [.var 6, .var 7] 3 <|
        .ret [.e2 (.add .i64) (.lt (.int 10)) (.var 2), .e2 (.add .i64) (.lt (.int 1)) (.var 5), .lt (.int 0), .lt (.int 0), .lt (.int 0), .lt (.int 0), .lt (.int 0), .lt (.int 0), .lt (.bool false), .lt (.str []), .lt (.bool false), .lt (.str []), .var 9, .var 10, .var 11]) (
        .ite (.e2 .ieq (.e2 (.add .i64) (.lt (.int 1)) (.var 5)) (.lt (.int 7))) (
         .call 30 [.var 6, .var 7, .lt (.int 4)] 3 <|
         .call 30 [.var 10, .var 11, .lt (.int 10)] 3 <|
         .ret [.e2 (.add .i64) (.lt (.int 10)) (.var 2), .e2 (.add .i64) (.lt (.int 1)) (.var 5), .lt (.int 0), .lt (.int 0), .lt (.int 0), .var 12, .var 9, .lt (.int 0), .lt (.bool false), .lt (.str []), .lt (.bool false), .lt (.str []), .lt (.str []), .var 13, .var 14]) (
         .ret [.e2 (.add .i64) (.lt (.int 10)) (.var 2), .e2 (.add .i64) (.lt (.int 1)) (.var 5), .lt (.int 0), .lt (.int 0), .lt (.int 0), .lt (.int 0), .lt (.int 0), .lt (.int 0), .lt (.bool false), .lt (.str []), .lt (.bool false), .lt (.str []), .lt (.str []), .var 6, .var 7]))) (
       .ite (.e2 .ieq (.e2 (.add .i64) (.lt (.int 1)) (.var 5)) (.lt (.int 8))) (
        .call 69 [.var 6, .var 7] 3 <|
        .ret [.e2 (.add .i64) (.lt (.int 10)) (.var 2), .e2 (.add .i64) (.lt (.int 1)) (.var 5), .lt (.int 0), .lt (.int 0), .lt (.int 0), .lt (.int 0), .lt (.int 0), .lt (.int 0), .lt (.bool false), .lt (.str []), .lt (.bool false), .lt (.str []), .var 9, .var 10, .var 11]) (
        .ite (.e2 .ieq (.e2 (.add .i64) (.lt (.int 1)) (.var 5)) (.lt (.int 7))) (
         .call 30 [.var 6, .var 7, .lt (.int 4)] 3 <|
         .call 30 [.var 10, .var 11, .lt (.int 10)] 3 <|
         .ret [.e2 (.add .i64) (.lt (.int 10)) (.var 2), .e2 (.add .i64) (.lt (.int 1)) (.var 5), .lt (.int 0), .lt (.int 0), .lt (.int 0), .var 12, .var 9, .lt (.int 0), .lt (.bool false), .lt (.str []), .lt (.bool false), .lt (.str []), .lt (.str []), .var 13, .var 14]) (
         .ret [.e2 (.add .i64) (.lt (.int 10)) (.var 2), .e2 (.add .i64) (.lt (.int 1)) (.var 5), .lt (.int 0), .lt (.int 0), .lt (.int 0), .lt (.int 0), .lt (.int 0), .lt (.int 0), .lt (.bool false), .lt (.str []), .lt (.bool false), .lt (.str []), .lt (.str []), .var 6, .var 7]))))) (
     .ite (.e2 .ieq (.e2 (.add .i64) (.lt (.int 1)) (.var 5)) (.lt (.int 5))) (
      .call 30 [.var 6, .var 7, .lt (.int 5)] 3 <|
      .call 30 [.var 10, .var 11, .lt (.int 9)] 3 <|
      .ret [.e2 (.add .i64) (.lt (.int 10)) (.var 2), .e2 (.add .i64) (.lt (.int 1)) (.var 5), .e2 (.add .i64) (.lt (.int 1)) (.var 9), .e2 (.add .i64) (.lt (.int 1)) (.var 12), .lt (.int 0), .lt (.int 0), .lt (.int 0), .lt (.int 0), .lt (.bool false), .lt (.str []), .lt (.bool false), .lt (.str []), .lt (.str []), .var 13, .var 14]) (
      .ite (.e2 .ieq (.e2 (.add .i64) (.lt (.int 1)) (.var 5)) (.lt (.int 6))) (
       .ite (.e2 .ieq (.e2 (.add .i64) (.lt (.int 1)) (.var 5)) (.lt (.int 6))) (
        .call 69 [.var 6, .var 7] 3 <|
        .ret [.e2 (.add .i64) (.lt (.int 10)) (.var 2), .e2 (.add .i64) (.lt (.int 1)) (.var 5), .lt (.int 0), .lt (.int 0), .lt (.int 0), .lt (.int 0), .lt (.int 0), .lt (.int 0), .lt (.bool false), .lt (.str []), .lt (.bool false), .lt (.str []), .var 9, .var 10, .var 11]) (
        .ite (.e2 .ieq (.e2 (.add .i64) (.lt (.int 1)) (.var 5)) (.lt (.int 7))) (
         .call 30 [.var 6, .var 7, .lt (.int 4)] 3 <|
         .call 30 [.var 10, .var 11, .lt (.int 10)] 3 <|
         .ret [.e2 (.add .i64) (.lt (.int 10)) (.var 2), .e2 (.add .i64) (.lt (.int 1)) (.var 5), .lt (.int 0), .lt (.int 0), .lt (.int 0), .var 12, .var 9, .lt (.int 0), .lt (.bool false), .lt (.str []), .lt (.bool false), .lt (.str []), .lt (.str []), .var 13, .var 14]) (
         .ret [.e2 (.add .i64) (.lt (.int 10)) (.var 2), .e2 (.add .i64) (.lt (.int 1)) (.var 5), .lt (.int 0), .lt (.int 0), .lt (.int 0), .lt (.int 0), .lt (.int 0), .lt (.int 0), .lt (.bool false), .lt (.str []), .lt (.bool false), .lt (.str []), .lt (.str []), .var 6, .var 7]))) (
       .ite (.e2 .ieq (.e2 (.add .i64) (.lt (.int 1)) (.var 5)) (.lt (.int 8))) (
        .call 69 [.var 6, .var 7] 3 <|
        .ret [.e2 (.add .i64) (.lt (.int 10)) (.var 2), .e2 (.add .i64) (.lt (.int 1)) (.var 5), .lt (.int 0), .lt (.int 0), .lt (.int 0), .lt (.int 0), .lt (.int 0), .lt (.int 0), .lt (.bool false), .lt (.str []), .lt (.bool false), .lt (.str []), .var 9, .var 10, .var 11]) (
        .ite (.e2 .ieq (.e2 (.add .i64) (.lt (.int 1)) (.var 5)) (.lt (.int 7))) (
         .call 30 [.var 6, .var 7, .lt (.int 4)] 3 <|
         .call 30 [.var 10, .var 11, .lt (.int 10)] 3 <|
         .ret [.e2 (.add .i64) (.lt (.int 10)) (.var 2), .e2 (.add .i64) (.lt (.int 1)) (.var 5), .lt (.int 0), .lt (.int 0), .lt (.int 0), .var 12, .var 9, .lt (.int 0), .lt (.bool false), .lt (.str []), .lt (.bool false), .lt (.str []), .lt (.str []), .var 13, .var 14]) (
         .ret [.e2 (.add .i64) (.lt (.int 10)) (.var 2), .e2 (.add .i64) (.lt (.int 1)) (.var 5), .lt (.int 0), .lt (.int 0), .lt (.int 0), .lt (.int 0), .lt (.int 0), .lt (.int 0), .lt (.bool false), .lt (.str []), .lt (.bool false), .lt (.str []), .lt (.str []), .var 6, .var 7])))))))) <|
 .ite (.e2 .ieq (.e2 (.add .i64) (.lt (.int 1)) (.var 5)) (.lt (.int 1))) (
  .jump 0 [.e2 .ieq (.e2 (.add .i64) (.lt (.int 1)) (.var 5)) (.lt (.int 1))]) (
  .jump 0 [.e2 .ieq (.e2 (.add .i64) (.lt (.int 1)) (.var 5)) (.lt (.int 2))])
theorem h40 : symFn K [(1000005, [.live 13])] 40 = .ok t40 := by kernel_rfl

/-- pagemend/entry.Decode -/
def t41 : Tree :=
 .call 70 [.var 0, .lt (.int 0), .lt (.int 0), .lt (.int 8)] 4 <|
 .call 70 [.var 2, .var 3, .var 4, .lt (.int 1)] 4 <|
 .call 70 [.var 6, .var 7, .var 8, .lt (.int 4)] 4 <|
 .call 70 [.var 10, .var 11, .var 12, .lt (.int 8)] 4 <|
 .call 70 [.var 14, .var 15, .var 16, .lt (.int 8)] 4 <|
 .call 70 [.var 18, .var 19, .var 20, .lt (.int 8)] 4 <|
 .call 70 [.var 22, .var 23, .var 24, .lt (.int 4)] 4 <|
 .call 70 [.var 26, .var 27, .var 28, .lt (.int 1)] 4 <|
 .call 71 [.var 30, .var 31, .var 32] 5 <|
 .call 71 [.var 35, .var 36, .var 37] 5 <|
 .call 70 [.var 40, .var 41, .var 42, .lt (.int 4)] 4 <|
 .call 72 [.var 44, .var 45, .var 46, .var 43] 4 <|
 .ite (.e2 .ine (.var 50) (.lt (.int 0))) (
  .ret [.lt (.int 0), .lt (.int 0), .lt (.int 0), .lt (.int 0), .lt (.int 0), .lt (.int 0), .lt (.int 0), .lt (.int 0), .lt (.bool false), .lt (.str []), .lt (.bool false), .lt (.str []), .lt (.str []), .var 50]) (
  .ite (.e2 .ine (.var 49) (.e1 .slen (.var 0))) (
   .ret [.lt (.int 0), .lt (.int 0), .lt (.int 0), .lt (.int 0), .lt (.int 0), .lt (.int 0), .lt (.int 0), .lt (.int 0), .lt (.bool false), .lt (.str []), .lt (.bool false), .lt (.str []), .lt (.str []), .lt (.int 4)]) (
   .call 44 [.var 1, .var 5, .var 9, .var 13, .var 17, .var 21, .var 25, .var 29, .var 33, .var 34, .var 38, .var 39, .var 47] 1 <|
   .ite (.e1 .not (.var 51)) (
    .ret [.lt (.int 0), .lt (.int 0), .lt (.int 0), .lt (.int 0), .lt (.int 0), .lt (.int 0), .lt (.int 0), .lt (.int 0), .lt (.bool false), .lt (.str []), .lt (.bool false), .lt (.str []), .lt (.str []), .lt (.int 12)]) (
    .ret [.var 1, .var 5, .var 9, .var 13, .var 17, .var 21, .var 25, .var 29, .var 33, .var 34, .var 38, .var 39, .var 47, .lt (.int 0)])))
theorem h41 : symFn K [] 41 = .ok t41 := by kernel_rfl

/-- pagemend/pagemendref05.Decode -/
def t42 : Tree :=
 .call 73 [.var 0, .lt (.int 0), .lt (.int 0), .lt (.int 8)] 4 <|
 .call 73 [.var 2, .var 3, .var 4, .lt (.int 1)] 4 <|
 .call 73 [.var 6, .var 7, .var 8, .lt (.int 4)] 4 <|
 .call 73 [.var 10, .var 11, .var 12, .lt (.int 8)] 4 <|
 .call 73 [.var 14, .var 15, .var 16, .lt (.int 8)] 4 <|
 .call 73 [.var 18, .var 19, .var 20, .lt (.int 8)] 4 <|
 .call 73 [.var 22, .var 23, .var 24, .lt (.int 4)] 4 <|
 .call 73 [.var 26, .var 27, .var 28, .lt (.int 1)] 4 <|
 .call 74 [.var 30, .var 31, .var 32] 5 <|
 .call 74 [.var 35, .var 36, .var 37] 5 <|
 .call 73 [.var 40, .var 41, .var 42, .lt (.int 4)] 4 <|
 .call 75 [.var 44, .var 45, .var 46, .var 43] 4 <|
 .ite (.e2 .ine (.var 50) (.lt (.int 0))) (
  .ret [.lt (.int 0), .lt (.int 0), .lt (.int 0), .lt (.int 0), .lt (.int 0), .lt (.int 0), .lt (.int 0), .lt (.int 0), .lt (.bool false), .lt (.str []), .lt (.bool false), .lt (.str []), .lt (.str []), .var 50]) (
  .ite (.e2 .ine (.var 49) (.e1 .slen (.var 0))) (
   .ret [.lt (.int 0), .lt (.int 0), .lt (.int 0), .lt (.int 0), .lt (.int 0), .lt (.int 0), .lt (.int 0), .lt (.int 0), .lt (.bool false), .lt (.str []), .lt (.bool false), .lt (.str []), .lt (.str []), .lt (.int 4)]) (
   .call 45 [.var 1, .var 5, .var 9, .var 13, .var 17, .var 21, .var 25, .var 29, .var 33, .var 34, .var 38, .var 39, .var 47] 1 <|
   .ite (.e1 .not (.var 51)) (
    .ret [.lt (.int 0), .lt (.int 0), .lt (.int 0), .lt (.int 0), .lt (.int 0), .lt (.int 0), .lt (.int 0), .lt (.int 0), .lt (.bool false), .lt (.str []), .lt (.bool false), .lt (.str []), .lt (.str []), .lt (.int 12)]) (
    .ret [.var 1, .var 5, .var 9, .var 13, .var 17, .var 21, .var 25, .var 29, .var 33, .var 34, .var 38, .var 39, .var 47, .lt (.int 0)])))
theorem h42 : symFn K [] 42 = .ok t42 := by kernel_rfl

/-- pagemend/entry.Encode -/
def t43 : Tree :=
 .call 44 [.var 0, .var 1, .var 2, .var 3, .var 4, .var 5, .var 6, .var 7, .var 8, .var 9, .var 10, .var 11, .var 12] 1 <|
 .ite (.e1 .not (.var 13)) (
  .ret [.lt (.str []), .lt (.int 12)]) (
  .call 22 [.lt (.str []), .var 0, .lt (.int 8)] 1 <|
  .call 22 [.var 14, .var 1, .lt (.int 1)] 1 <|
  .call 22 [.var 15, .var 2, .lt (.int 4)] 1 <|
  .join 2 (
   .ite (.e2 .ilt (.var 18) (.e1 .llen (.e2 .app (.e1 .one (.var 3)) (.e2 .app (.e1 .one (.var 4)) (.e2 .app (.e1 .one (.var 5)) (.lt .nil)))))) (
    .guard (.e2 .ile (.lt (.int 0)) (.var 18)) <|
    .guard (.e2 .ilt (.var 18) (.e1 .llen (.e2 .app (.e1 .one (.var 3)) (.e2 .app (.e1 .one (.var 4)) (.e2 .app (.e1 .one (.var 5)) (.lt .nil)))))) <|
    .call 22 [.var 17, .e1 (.cell 0) (.e2 .row (.e2 .app (.e1 .one (.var 3)) (.e2 .app (.e1 .one (.var 4)) (.e2 .app (.e1 .one (.var 5)) (.lt .nil)))) (.var 18)), .lt (.int 8)] 1 <|
    .jump 0 [.var 19, .e2 (.add .i64) (.var 18) (.lt (.int 1))]) (
    .call 22 [.var 17, .var 6, .lt (.int 4)] 1 <|
    .call 22 [.var 19, .var 7, .lt (.int 1)] 1 <|
    .call 76 [.var 20, .var 8, .var 9] 1 <|
    .call 76 [.var 21, .var 10, .var 11] 1 <|
    .call 22 [.var 22, .e1 .slen (.var 12), .lt (.int 4)] 1 <|
    .guard (.e2 .ile (.e2 (.add .i64) (.e1 .slen (.var 23)) (.e1 .slen (.var 12))) (.lt (.int 140737488355328))) <|
    .guard (.e2 .ile (.e1 .slen (.var 23)) (.lt (.int 140737488355328))) <|
    .guard (.e2 .ile (.e1 .slen (.var 12)) (.lt (.int 140737488355328))) <|
    .ret [.e2 .cat (.var 23) (.var 12), .lt (.int 0)])) <|
  .jump 0 [.var 16, .lt (.int 0)])
theorem h43 : symFn K [(5, [.live 27, .live 4])] 43 = .ok t43 := by kernel_rfl

/-- pagemend/entry.Valid -/
def t44 : Tree :=
 .ite (.e2 .ilt (.var 0) (.lt (.int 1))) (
  .ret [.lt (.bool false)]) (
  .ite (.e2 .igt (.var 0) (.lt (.int 1099511627776))) (
   .ret [.lt (.bool false)]) (
   .ite (.e2 .ilt (.var 1) (.lt (.int 1))) (
    .ret [.lt (.bool false)]) (
    .ite (.e2 .igt (.var 1) (.lt (.int 8))) (
     .ret [.lt (.bool false)]) (
     .call 77 [.var 3, .var 0, .var 1, .var 2, .var 3, .var 4, .var 5, .var 6, .var 7, .var 8, .var 9, .var 10, .var 11, .var 12] 1 <|
     .ite (.e1 .not (.var 13)) (
      .ret [.lt (.bool false)]) (
      .call 77 [.var 4, .var 0, .var 1, .var 2, .var 3, .var 4, .var 5, .var 6, .var 7, .var 8, .var 9, .var 10, .var 11, .var 12] 1 <|
      .ite (.e1 .not (.var 14)) (
       .ret [.lt (.bool false)]) (
       .call 77 [.var 5, .var 0, .var 1, .var 2, .var 3, .var 4, .var 5, .var 6, .var 7, .var 8, .var 9, .var 10, .var 11, .var 12] 1 <|
       .ite (.e1 .not (.var 15)) (
        .ret [.lt (.bool false)]) (
        .call 78 [] 1 <|
        .guard (.e2 .ile (.lt (.int 0)) (.var 1)) <|
        .guard (.e2 .ilt (.var 1) (.lt (.int 9))) <|
        .ite (.e1 (.cell 0) (.e2 .row (.var 16) (.var 1))) (
         .ite (.e2 .ilt (.var 2) (.lt (.int 1))) (
          .ret [.lt (.bool false)]) (
          .join 1 (
           .join 0 (
            .ite (.e2 .ile (.e1 .slen (.var 12)) (.lt (.int 8192))) (
             .callv ⟨[.val true [(.int .i64, false), (.int .i64, false), (.int .i64, false), (.int .i64, false), (.int .i64, false), (.int .i64, false), (.int .i64, false), (.int .i64, false), (.bool, false), (.str, false), (.bool, false), (.str, false), (.str, false)]], [.val false [(.bool, false)]]⟩ (.e1 (.cell 5) (.e2 .row (.var 16) (.var 1))) [.var 0, .var 1, .var 2, .var 3, .var 4, .var 5, .var 6, .var 7, .var 8, .var 9, .var 10, .var 11, .var 12] 1 <|
             .ite (.var 18) (
              .callv ⟨[.val true [(.int .i64, false), (.int .i64, false), (.bool, false), (.str, false), (.bool, false), (.str, false)]], [.val false [(.bool, false)]]⟩ (.e1 (.cell 6) (.e2 .row (.var 16) (.var 1))) [.var 6, .var 7, .var 8, .var 9, .var 10, .var 11] 1 <|
              .ret [.var 19]) (
              .ret [.lt (.bool false)])) (
             .ret [.lt (.bool false)])) <|
           .ite (.var 17) (
            .ret [.lt (.bool false)]) (
            .ite (.e1 .not (.e1 (.cell 0) (.e2 .row (.var 16) (.var 1)))) (
             .ite (.e2 .ine (.var 2) (.lt (.int 0))) (
              .ret [.lt (.bool false)]) (
              .join 1 (
               .ite (.var 18) (
                .ret [.lt (.bool false)]) (
                .jump 1 [])) <|
              .ite (.e2 .ine (.var 3) (.lt (.int 0))) (
               .jump 2 [.e2 .ine (.var 3) (.lt (.int 0))]) (
               .ite (.e1 .not (.e1 (.cell 2) (.e2 .row (.var 16) (.var 1)))) (
                .ite (.e2 .ine (.var 4) (.lt (.int 0))) (
                 .jump 2 [.e2 .ine (.var 4) (.lt (.int 0))]) (
                 .ite (.e1 .not (.e1 (.cell 3) (.e2 .row (.var 16) (.var 1)))) (
                  .ite (.e2 .ine (.var 5) (.lt (.int 0))) (
                   .jump 2 [.e2 .ine (.var 5) (.lt (.int 0))]) (
                   .ite (.e1 .not (.e1 (.cell 4) (.e2 .row (.var 16) (.var 1)))) (
                    .jump 2 [.e2 .sne (.var 12) (.lt (.str []))]) (
                    .jump 2 [.lt (.bool false)]))) (
                  .ite (.e1 .not (.e1 (.cell 4) (.e2 .row (.var 16) (.var 1)))) (
                   .jump 2 [.e2 .sne (.var 12) (.lt (.str []))]) (
                   .jump 2 [.lt (.bool false)])))) (
                .ite (.e1 .not (.e1 (.cell 3) (.e2 .row (.var 16) (.var 1)))) (
                 .ite (.e2 .ine (.var 5) (.lt (.int 0))) (
                  .jump 2 [.e2 .ine (.var 5) (.lt (.int 0))]) (
                  .ite (.e1 .not (.e1 (.cell 4) (.e2 .row (.var 16) (.var 1)))) (
                   .jump 2 [.e2 .sne (.var 12) (.lt (.str []))]) (
                   .jump 2 [.lt (.bool false)]))) (
                 .ite (.e1 .not (.e1 (.cell 4) (.e2 .row (.var 16) (.var 1)))) (
                  .jump 2 [.e2 .sne (.var 12) (.lt (.str []))]) (
                  .jump 2 [.lt (.bool false)])))))) (
             .ite (.e1 .not (.e1 (.cell 2) (.e2 .row (.var 16) (.var 1)))) (
              .join 1 (
               .ite (.var 18) (
                .ret [.lt (.bool false)]) (
                .jump 1 [])) <|
              .ite (.e2 .ine (.var 4) (.lt (.int 0))) (
               .jump 2 [.e2 .ine (.var 4) (.lt (.int 0))]) (
               .ite (.e1 .not (.e1 (.cell 3) (.e2 .row (.var 16) (.var 1)))) (
                .ite (.e2 .ine (.var 5) (.lt (.int 0))) (
                 .jump 2 [.e2 .ine (.var 5) (.lt (.int 0))]) (
                 .ite (.e1 .not (.e1 (.cell 4) (.e2 .row (.var 16) (.var 1)))) (
                  .jump 2 [.e2 .sne (.var 12) (.lt (.str []))]) (
                  .jump 2 [.lt (.bool false)]))) (
                .ite (.e1 .not (.e1 (.cell 4) (.e2 .row (.var 16) (.var 1)))) (
                 .jump 2 [.e2 .sne (.var 12) (.lt (.str []))]) (
                 .jump 2 [.lt (.bool false)])))) (
              .ite (.e1 .not (.e1 (.cell 3) (.e2 .row (.var 16) (.var 1)))) (
               .join 1 (
                .ite (.var 18) (
                 .ret [.lt (.bool false)]) (
                 .jump 1 [])) <|
               .ite (.e2 .ine (.var 5) (.lt (.int 0))) (
                .jump 2 [.e2 .ine (.var 5) (.lt (.int 0))]) (
                .ite (.e1 .not (.e1 (.cell 4) (.e2 .row (.var 16) (.var 1)))) (
                 .jump 2 [.e2 .sne (.var 12) (.lt (.str []))]) (
                 .jump 2 [.lt (.bool false)]))) (
               .ite (.e1 .not (.e1 (.cell 4) (.e2 .row (.var 16) (.var 1)))) (
                .ite (.e2 .sne (.var 12) (.lt (.str []))) (
                 .ret [.lt (.bool false)]) (
                 .jump 1 [])) (
                .jump 1 [])))))) <|
          .ite (.e2 .igt (.var 2) (.lt (.int 1073741824))) (
           .jump 0 [.e2 .igt (.var 2) (.lt (.int 1073741824))]) (
           .ite (.e1 (.cell 1) (.e2 .row (.var 16) (.var 1))) (
            .jump 0 [.e2 .ieq (.var 3) (.lt (.int 0))]) (
            .jump 0 [.lt (.bool false)])))) (
         .ite (.e1 (.cell 1) (.e2 .row (.var 16) (.var 1))) (
          .join 0 (
           .ite (.e2 .ile (.e1 .slen (.var 12)) (.lt (.int 8192))) (
            .callv ⟨[.val true [(.int .i64, false), (.int .i64, false), (.int .i64, false), (.int .i64, false), (.int .i64, false), (.int .i64, false), (.int .i64, false), (.int .i64, false), (.bool, false), (.str, false), (.bool, false), (.str, false), (.str, false)]], [.val false [(.bool, false)]]⟩ (.e1 (.cell 5) (.e2 .row (.var 16) (.var 1))) [.var 0, .var 1, .var 2, .var 3, .var 4, .var 5, .var 6, .var 7, .var 8, .var 9, .var 10, .var 11, .var 12] 1 <|
            .ite (.var 17) (
             .callv ⟨[.val true [(.int .i64, false), (.int .i64, false), (.bool, false), (.str, false), (.bool, false), (.str, false)]], [.val false [(.bool, false)]]⟩ (.e1 (.cell 6) (.e2 .row (.var 16) (.var 1))) [.var 6, .var 7, .var 8, .var 9, .var 10, .var 11] 1 <|
             .ret [.var 18]) (
             .ret [.lt (.bool false)])) (
            .ret [.lt (.bool false)])) <|
          .ite (.e2 .ieq (.var 3) (.lt (.int 0))) (
           .ret [.lt (.bool false)]) (
           .ite (.e1 .not (.e1 (.cell 0) (.e2 .row (.var 16) (.var 1)))) (
            .ite (.e2 .ine (.var 2) (.lt (.int 0))) (
             .ret [.lt (.bool false)]) (
             .join 1 (
              .ite (.var 17) (
               .ret [.lt (.bool false)]) (
               .jump 0 [])) <|
             .ite (.e2 .ine (.var 3) (.lt (.int 0))) (
              .jump 1 [.e2 .ine (.var 3) (.lt (.int 0))]) (
              .ite (.e1 .not (.e1 (.cell 2) (.e2 .row (.var 16) (.var 1)))) (
               .ite (.e2 .ine (.var 4) (.lt (.int 0))) (
                .jump 1 [.e2 .ine (.var 4) (.lt (.int 0))]) (
                .ite (.e1 .not (.e1 (.cell 3) (.e2 .row (.var 16) (.var 1)))) (
                 .ite (.e2 .ine (.var 5) (.lt (.int 0))) (
                  .jump 1 [.e2 .ine (.var 5) (.lt (.int 0))]) (
                  .ite (.e1 .not (.e1 (.cell 4) (.e2 .row (.var 16) (.var 1)))) (
                   .jump 1 [.e2 .sne (.var 12) (.lt (.str []))]) (
                   .jump 1 [.lt (.bool false)]))) (
                 .ite (.e1 .not (.e1 (.cell 4) (.e2 .row (.var 16) (.var 1)))) (
                  .jump 1 [.e2 .sne (.var 12) (.lt (.str []))]) (
                  .jump 1 [.lt (.bool false)])))) (
               .ite (.e1 .not (.e1 (.cell 3) (.e2 .row (.var 16) (.var 1)))) (
                .ite (.e2 .ine (.var 5) (.lt (.int 0))) (
                 .jump 1 [.e2 .ine (.var 5) (.lt (.int 0))]) (
                 .ite (.e1 .not (.e1 (.cell 4) (.e2 .row (.var 16) (.var 1)))) (
                  .jump 1 [.e2 .sne (.var 12) (.lt (.str []))]) (
                  .jump 1 [.lt (.bool false)]))) (
                .ite (.e1 .not (.e1 (.cell 4) (.e2 .row (.var 16) (.var 1)))) (
                 .jump 1 [.e2 .sne (.var 12) (.lt (.str []))]) (
                 .jump 1 [.lt (.bool false)])))))) (
            .ite (.e1 .not (.e1 (.cell 2) (.e2 .row (.var 16) (.var 1)))) (
             .join 1 (
              .ite (.var 17) (
               .ret [.lt (.bool false)]) (
               .jump 0 [])) <|
             .ite (.e2 .ine (.var 4) (.lt (.int 0))) (
              .jump 1 [.e2 .ine (.var 4) (.lt (.int 0))]) (
              .ite (.e1 .not (.e1 (.cell 3) (.e2 .row (.var 16) (.var 1)))) (
               .ite (.e2 .ine (.var 5) (.lt (.int 0))) (
                .jump 1 [.e2 .ine (.var 5) (.lt (.int 0))]) (
                .ite (.e1 .not (.e1 (.cell 4) (.e2 .row (.var 16) (.var 1)))) (
                 .jump 1 [.e2 .sne (.var 12) (.lt (.str []))]) (
                 .jump 1 [.lt (.bool false)]))) (
               .ite (.e1 .not (.e1 (.cell 4) (.e2 .row (.var 16) (.var 1)))) (
                .jump 1 [.e2 .sne (.var 12) (.lt (.str []))]) (
                .jump 1 [.lt (.bool false)])))) (
             .ite (.e1 .not (.e1 (.cell 3) (.e2 .row (.var 16) (.var 1)))) (
              .join 1 (
               .ite (.var 17) (
                .ret [.lt (.bool false)]) (
                .jump 0 [])) <|
              .ite (.e2 .ine (.var 5) (.lt (.int 0))) (
               .jump 1 [.e2 .ine (.var 5) (.lt (.int 0))]) (
               .ite (.e1 .not (.e1 (.cell 4) (.e2 .row (.var 16) (.var 1)))) (
                .jump 1 [.e2 .sne (.var 12) (.lt (.str []))]) (
                .jump 1 [.lt (.bool false)]))) (
              .ite (.e1 .not (.e1 (.cell 4) (.e2 .row (.var 16) (.var 1)))) (
               .ite (.e2 .sne (.var 12) (.lt (.str []))) (
                .ret [.lt (.bool false)]) (
                .jump 0 [])) (
               .jump 0 [])))))) (
          .ite (.e1 .not (.e1 (.cell 0) (.e2 .row (.var 16) (.var 1)))) (
           .ite (.e2 .ine (.var 2) (.lt (.int 0))) (
            .ret [.lt (.bool false)]) (
            .join 1 (
             .join 0 (
              .ite (.e2 .ile (.e1 .slen (.var 12)) (.lt (.int 8192))) (
               .callv ⟨[.val true [(.int .i64, false), (.int .i64, false), (.int .i64, false), (.int .i64, false), (.int .i64, false), (.int .i64, false), (.int .i64, false), (.int .i64, false), (.bool, false), (.str, false), (.bool, false), (.str, false), (.str, false)]], [.val false [(.bool, false)]]⟩ (.e1 (.cell 5) (.e2 .row (.var 16) (.var 1))) [.var 0, .var 1, .var 2, .var 3, .var 4, .var 5, .var 6, .var 7, .var 8, .var 9, .var 10, .var 11, .var 12] 1 <|
               .ite (.var 18) (
                .callv ⟨[.val true [(.int .i64, false), (.int .i64, false), (.bool, false), (.str, false), (.bool, false), (.str, false)]], [.val false [(.bool, false)]]⟩ (.e1 (.cell 6) (.e2 .row (.var 16) (.var 1))) [.var 6, .var 7, .var 8, .var 9, .var 10, .var 11] 1 <|
                .ret [.var 19]) (
                .ret [.lt (.bool false)])) (
               .ret [.lt (.bool false)])) <|
             .ite (.var 17) (
              .ret [.lt (.bool false)]) (
              .jump 1 [])) <|
            .ite (.e2 .ine (.var 3) (.lt (.int 0))) (
             .jump 0 [.e2 .ine (.var 3) (.lt (.int 0))]) (
             .ite (.e1 .not (.e1 (.cell 2) (.e2 .row (.var 16) (.var 1)))) (
              .ite (.e2 .ine (.var 4) (.lt (.int 0))) (
               .jump 0 [.e2 .ine (.var 4) (.lt (.int 0))]) (
               .ite (.e1 .not (.e1 (.cell 3) (.e2 .row (.var 16) (.var 1)))) (
                .ite (.e2 .ine (.var 5) (.lt (.int 0))) (
                 .jump 0 [.e2 .ine (.var 5) (.lt (.int 0))]) (
                 .ite (.e1 .not (.e1 (.cell 4) (.e2 .row (.var 16) (.var 1)))) (
                  .jump 0 [.e2 .sne (.var 12) (.lt (.str []))]) (
                  .jump 0 [.lt (.bool false)]))) (
                .ite (.e1 .not (.e1 (.cell 4) (.e2 .row (.var 16) (.var 1)))) (
                 .jump 0 [.e2 .sne (.var 12) (.lt (.str []))]) (
                 .jump 0 [.lt (.bool false)])))) (
              .ite (.e1 .not (.e1 (.cell 3) (.e2 .row (.var 16) (.var 1)))) (
               .ite (.e2 .ine (.var 5) (.lt (.int 0))) (
                .jump 0 [.e2 .ine (.var 5) (.lt (.int 0))]) (
                .ite (.e1 .not (.e1 (.cell 4) (.e2 .row (.var 16) (.var 1)))) (
                 .jump 0 [.e2 .sne (.var 12) (.lt (.str []))]) (
                 .jump 0 [.lt (.bool false)]))) (
               .ite (.e1 .not (.e1 (.cell 4) (.e2 .row (.var 16) (.var 1)))) (
                .jump 0 [.e2 .sne (.var 12) (.lt (.str []))]) (
                .jump 0 [.lt (.bool false)])))))) (
           .ite (.e1 .not (.e1 (.cell 2) (.e2 .row (.var 16) (.var 1)))) (
            .join 1 (
             .join 0 (
              .ite (.e2 .ile (.e1 .slen (.var 12)) (.lt (.int 8192))) (
               .callv ⟨[.val true [(.int .i64, false), (.int .i64, false), (.int .i64, false), (.int .i64, false), (.int .i64, false), (.int .i64, false), (.int .i64, false), (.int .i64, false), (.bool, false), (.str, false), (.bool, false), (.str, false), (.str, false)]], [.val false [(.bool, false)]]⟩ (.e1 (.cell 5) (.e2 .row (.var 16) (.var 1))) [.var 0, .var 1, .var 2, .var 3, .var 4, .var 5, .var 6, .var 7, .var 8, .var 9, .var 10, .var 11, .var 12] 1 <|
               .ite (.var 18) (
                .callv ⟨[.val true [(.int .i64, false), (.int .i64, false), (.bool, false), (.str, false), (.bool, false), (.str, false)]], [.val false [(.bool, false)]]⟩ (.e1 (.cell 6) (.e2 .row (.var 16) (.var 1))) [.var 6, .var 7, .var 8, .var 9, .var 10, .var 11] 1 <|
                .ret [.var 19]) (
                .ret [.lt (.bool false)])) (
               .ret [.lt (.bool false)])) <|
             .ite (.var 17) (
              .ret [.lt (.bool false)]) (
              .jump 1 [])) <|
            .ite (.e2 .ine (.var 4) (.lt (.int 0))) (
             .jump 0 [.e2 .ine (.var 4) (.lt (.int 0))]) (
             .ite (.e1 .not (.e1 (.cell 3) (.e2 .row (.var 16) (.var 1)))) (
              .ite (.e2 .ine (.var 5) (.lt (.int 0))) (
               .jump 0 [.e2 .ine (.var 5) (.lt (.int 0))]) (
               .ite (.e1 .not (.e1 (.cell 4) (.e2 .row (.var 16) (.var 1)))) (
                .jump 0 [.e2 .sne (.var 12) (.lt (.str []))]) (
                .jump 0 [.lt (.bool false)]))) (
              .ite (.e1 .not (.e1 (.cell 4) (.e2 .row (.var 16) (.var 1)))) (
               .jump 0 [.e2 .sne (.var 12) (.lt (.str []))]) (
               .jump 0 [.lt (.bool false)])))) (
            .ite (.e1 .not (.e1 (.cell 3) (.e2 .row (.var 16) (.var 1)))) (
             .join 1 (
              .join 0 (
               .ite (.e2 .ile (.e1 .slen (.var 12)) (.lt (.int 8192))) (
                .callv ⟨[.val true [(.int .i64, false), (.int .i64, false), (.int .i64, false), (.int .i64, false), (.int .i64, false), (.int .i64, false), (.int .i64, false), (.int .i64, false), (.bool, false), (.str, false), (.bool, false), (.str, false), (.str, false)]], [.val false [(.bool, false)]]⟩ (.e1 (.cell 5) (.e2 .row (.var 16) (.var 1))) [.var 0, .var 1, .var 2, .var 3, .var 4, .var 5, .var 6, .var 7, .var 8, .var 9, .var 10, .var 11, .var 12] 1 <|
                .ite (.var 18) (
                 .callv ⟨[.val true [(.int .i64, false), (.int .i64, false), (.bool, false), (.str, false), (.bool, false), (.str, false)]], [.val false [(.bool, false)]]⟩ (.e1 (.cell 6) (.e2 .row (.var 16) (.var 1))) [.var 6, .var 7, .var 8, .var 9, .var 10, .var 11] 1 <|
                 .ret [.var 19]) (
                 .ret [.lt (.bool false)])) (
                .ret [.lt (.bool false)])) <|
              .ite (.var 17) (
               .ret [.lt (.bool false)]) (
               .jump 1 [])) <|
             .ite (.e2 .ine (.var 5) (.lt (.int 0))) (
              .jump 0 [.e2 .ine (.var 5) (.lt (.int 0))]) (
              .ite (.e1 .not (.e1 (.cell 4) (.e2 .row (.var 16) (.var 1)))) (
               .jump 0 [.e2 .sne (.var 12) (.lt (.str []))]) (
               .jump 0 [.lt (.bool false)]))) (
             .ite (.e1 .not (.e1 (.cell 4) (.e2 .row (.var 16) (.var 1)))) (
              .join 0 (
               .ite (.e2 .ile (.e1 .slen (.var 12)) (.lt (.int 8192))) (
                .callv ⟨[.val true [(.int .i64, false), (.int .i64, false), (.int .i64, false), (.int .i64, false), (.int .i64, false), (.int .i64, false), (.int .i64, false), (.int .i64, false), (.bool, false), (.str, false), (.bool, false), (.str, false), (.str, false)]], [.val false [(.bool, false)]]⟩ (.e1 (.cell 5) (.e2 .row (.var 16) (.var 1))) [.var 0, .var 1, .var 2, .var 3, .var 4, .var 5, .var 6, .var 7, .var 8, .var 9, .var 10, .var 11, .var 12] 1 <|
                .ite (.var 17) (
                 .callv ⟨[.val true [(.int .i64, false), (.int .i64, false), (.bool, false), (.str, false), (.bool, false), (.str, false)]], [.val false [(.bool, false)]]⟩ (.e1 (.cell 6) (.e2 .row (.var 16) (.var 1))) [.var 6, .var 7, .var 8, .var 9, .var 10, .var 11] 1 <|
                 .ret [.var 18]) (
                 .ret [.lt (.bool false)])) (
                .ret [.lt (.bool false)])) <|
              .ite (.e2 .sne (.var 12) (.lt (.str []))) (
               .ret [.lt (.bool false)]) (
               .jump 0 [])) (
              .ite (.e2 .ile (.e1 .slen (.var 12)) (.lt (.int 8192))) (
               .callv ⟨[.val true [(.int .i64, false), (.int .i64, false), (.int .i64, false), (.int .i64, false), (.int .i64, false), (.int .i64, false), (.int .i64, false), (.int .i64, false), (.bool, false), (.str, false), (.bool, false), (.str, false), (.str, false)]], [.val false [(.bool, false)]]⟩ (.e1 (.cell 5) (.e2 .row (.var 16) (.var 1))) [.var 0, .var 1, .var 2, .var 3, .var 4, .var 5, .var 6, .var 7, .var 8, .var 9, .var 10, .var 11, .var 12] 1 <|
               .ite (.var 17) (
                .callv ⟨[.val true [(.int .i64, false), (.int .i64, false), (.bool, false), (.str, false), (.bool, false), (.str, false)]], [.val false [(.bool, false)]]⟩ (.e1 (.cell 6) (.e2 .row (.var 16) (.var 1))) [.var 6, .var 7, .var 8, .var 9, .var 10, .var 11] 1 <|
                .ret [.var 18]) (
                .ret [.lt (.bool false)])) (
               .ret [.lt (.bool false)]))))))))))))))
theorem h44 : symFn K [(1000006, [.live 47]), (1000011, [.live 67]), (1000012, [])] 44 = .ok t44 := by kernel_rfl

/-- pagemend/pagemendref05.Valid -/
def t45 : Tree :=
 .call 79 [.var 0, .var 1, .var 2, .var 3, .var 4, .var 5, .var 6, .var 7, .var 8, .var 9, .var 10, .var 11, .var 12] 14 <|
 .ite (.var 26) (
  .ite (.e2 .deq (.e2 .addc (.e2 .addc (.e2 .addc (.e2 .addc (.e2 .addc (.e2 .addc (.e2 .addc (.e2 .addc (.e2 .addc (.e2 .addc (.e2 .addc (.e2 .addc (.e1 .one (.var 13)) (.var 14)) (.var 15)) (.var 16)) (.var 17)) (.var 18)) (.var 19)) (.var 20)) (.var 21)) (.var 22)) (.var 23)) (.var 24)) (.var 25)) (.e2 .addc (.e2 .addc (.e2 .addc (.e2 .addc (.e2 .addc (.e2 .addc (.e2 .addc (.e2 .addc (.e2 .addc (.e2 .addc (.e2 .addc (.e2 .addc (.e1 .one (.var 0)) (.var 1)) (.var 2)) (.var 3)) (.var 4)) (.var 5)) (.var 6)) (.var 7)) (.var 8)) (.var 9)) (.var 10)) (.var 11)) (.var 12))) (
   .ite (.e2 .ige (.var 0) (.lt (.int 1))) (
    .ite (.e2 .ile (.var 0) (.lt (.int 1099511627776))) (
     .call 80 [.var 3, .var 0] 1 <|
     .ite (.var 27) (
      .call 80 [.var 4, .var 0] 1 <|
      .ite (.var 28) (
       .call 80 [.var 5, .var 0] 1 <|
       .ret [.var 29]) (
       .ret [.lt (.bool false)])) (
      .ret [.lt (.bool false)])) (
     .ret [.lt (.bool false)])) (
    .ret [.lt (.bool false)])) (
   .ret [.lt (.bool false)])) (
  .ret [.lt (.bool false)])
theorem h45 : symFn K [] 45 = .ok t45 := by kernel_rfl

end Go.Proofs.Ytdjbjfmgdagcgaa
